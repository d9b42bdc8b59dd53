/-
  Interf: the index: what lies where; New.
-/
import Derived.Test.YtongefjadoidbaaInt2
namespace Go.Proofs.Ytongefjadoidbaa
open Go.RowKit
set_option maxRecDepth 20000
set_option linter.unusedVariables false

def allL (S : List It) : List It := S.filter fun i => !decide (i.kind = 0)
def globL (S : List It) : List It := S.filter fun i => decide (i.kind = 2)
def homeL (h : List UInt8) (S : List It) : List It := S.filter fun i => decide (i.kind = 1) && decide (i.home = h)
/-- Where an index lies. -/
structure IdxP where
  ib : Nat
  db : Nat
  gb : Nat
  gd : Nat
  mb : Nat
  hs : List (List UInt8 × Nat × Nat)
def IdxP.Has (x : IdxP) (k : Nat) : Prop := k = x.ib ∨ k = x.db ∨ k = x.gb ∨ k = x.gd ∨ k = x.mb ∨ ∃ p ∈ x.hs, k = p.2.1 ∨ k = p.2.2
def hmap (hs : List (List UInt8 × Nat × Nat)) : List (List UInt8 × Value) := hs.map fun p => (p.1, .pointer (some ⟨p.2.1, 0, none⟩))
def Apart (p q : List UInt8 × Nat × Nat) : Prop := p.2.1 ≠ q.2.1 ∧ p.2.1 ≠ q.2.2 ∧ p.2.2 ≠ q.2.1 ∧ p.2.2 ≠ q.2.2
/-- What lies where: the entry of all, the one of the globals, and those of the homes. -/
structure IdxG (w : World) (x : IdxP) (n : Nat) (LA LG : List It) (HL : List UInt8 → List It) : Prop where
  all : EntAt w x.ib x.db 66 [.pointer (some ⟨x.gb, 0, none⟩), .map (some x.mb)] (depsL n LA) (seqMax LA)
  glob : EntAt w x.gb x.gd 63 [] (depsL n LG) (seqMax LG)
  homes : MapAt w x.mb tkey (hmap x.hs)
  ents : ∀ p ∈ x.hs, EntAt w p.2.1 p.2.2 63 [] (depsL n (HL p.1)) (seqMax (HL p.1))
  nd1 : [x.ib, x.db, x.gb, x.gd, x.mb].Nodup
  nd2 : ∀ p ∈ x.hs, p.2.1 ∉ [x.ib, x.db, x.gb, x.gd, x.mb] ∧ p.2.2 ∉ [x.ib, x.db, x.gb, x.gd, x.mb]
  nd3 : x.hs.Pairwise Apart
theorem EntAt.lt {w : World} {eb db : Nat} {t : TypeId} {rest : List Value} {l : List Int} {s : Int} (h : EntAt w eb db t rest l s) : eb < w.heap.size ∧ db < w.heap.size := by
  obtain ⟨cap, cu, h1, h2, _⟩ := h
  exact ⟨h1.lt, h2.lt⟩
theorem IdxG.below {w w' : World} {x : IdxP} {n : Nat} {LA LG : List It} {HL : List UInt8 → List It} (h : IdxG w x n LA LG HL) (hb : Below w.heap.size w w') : IdxG w' x n LA LG HL :=
  { h with all := h.all.below hb, glob := h.glob.below hb, homes := h.homes.below hb, ents := fun p hp => (h.ents p hp).below hb }
theorem IdxG.keptS {T : Nat → Prop} {w w' : World} {x : IdxP} {n : Nat} {LA LG : List It} {HL : List UInt8 → List It} (h : IdxG w x n LA LG HL) (hk : KeptS T w w') (hn : ∀ k, x.Has k → ¬ T k) : IdxG w' x n LA LG HL :=
  { h with
    all := h.all.keptS hk (hn _ (.inl rfl)) (hn _ (.inr (.inl rfl)))
    glob := h.glob.keptS hk (hn _ (.inr (.inr (.inl rfl)))) (hn _ (.inr (.inr (.inr (.inl rfl)))))
    homes := h.homes.keptS hk (hn _ (.inr (.inr (.inr (.inr (.inl rfl))))))
    ents := fun p hp => (h.ents p hp).keptS hk (hn _ (.inr (.inr (.inr (.inr (.inr ⟨p, hp, .inl rfl⟩)))))) (hn _ (.inr (.inr (.inr (.inr (.inr ⟨p, hp, .inr rfl⟩)))))) }
theorem IdxG.lt {w : World} {x : IdxP} {n : Nat} {LA LG : List It} {HL : List UInt8 → List It} (h : IdxG w x n LA LG HL) {k : Nat} (hk : x.Has k) : k < w.heap.size := by
  rcases hk with rfl | rfl | rfl | rfl | rfl | ⟨p, hp, rfl | rfl⟩
  · exact h.all.lt.1
  · exact h.all.lt.2
  · exact h.glob.lt.1
  · exact h.glob.lt.2
  · exact h.homes.lt
  · exact (h.ents p hp).lt.1
  · exact (h.ents p hp).lt.2
/-- Two homes' entries lie apart. -/
theorem IdxG.apart {w : World} {x : IdxP} {n : Nat} {LA LG : List It} {HL : List UInt8 → List It} (h : IdxG w x n LA LG HL) {p q : List UInt8 × Nat × Nat} (hp : p ∈ x.hs) (hq : q ∈ x.hs) (hne : p ≠ q) : Apart p q := by
  obtain ⟨i, hi, rfl⟩ := List.getElem_of_mem hp
  obtain ⟨j, hj, rfl⟩ := List.getElem_of_mem hq
  rcases Nat.lt_trichotomy i j with g | g | g
  · exact List.pairwise_iff_getElem.1 h.nd3 i j hi hj g
  · subst g; exact absurd rfl hne
  · have := List.pairwise_iff_getElem.1 h.nd3 j i hj hi g
    exact ⟨this.1.symm, this.2.2.1.symm, this.2.1.symm, this.2.2.2.symm⟩
theorem IdxG.nokeys {w : World} {x : IdxP} {n : Nat} {LA LG : List It} {HL : List UInt8 → List It} (h : IdxG w x n LA LG HL) : (x.hs.map (·.1)).Nodup := by
  obtain ⟨arr, clock, _, _, _, _, hn⟩ := h.homes
  have e : (hmap x.hs).map (·.1) = x.hs.map (·.1) := by unfold hmap; rw [List.map_map]; rfl
  rw [e] at hn; exact hn
theorem IdxG.one {w : World} {x : IdxP} {n : Nat} {LA LG : List It} {HL : List UInt8 → List It} (h : IdxG w x n LA LG HL) {p q : List UInt8 × Nat × Nat} (hp : p ∈ x.hs) (hq : q ∈ x.hs) (he : p.1 = q.1) : p = q := by
  have hn := h.nokeys
  obtain ⟨i, hi, rfl⟩ := List.getElem_of_mem hp
  obtain ⟨j, hj, rfl⟩ := List.getElem_of_mem hq
  have key : ∀ i j (hi : i < x.hs.length) (hj : j < x.hs.length), i < j → x.hs[i].1 ≠ x.hs[j].1 := fun i j hi hj hij => by
    have := List.pairwise_iff_getElem.1 hn i j (by simpa using hi) (by simpa using hj) hij
    simpa using this
  rcases Nat.lt_trichotomy i j with g | g | g
  · exact absurd he (key i j hi hj g)
  · subst g; rfl
  · exact absurd he.symm (key j i hj hi g)
theorem IdxG.growAll {w w' : World} {x : IdxP} {n : Nat} {LA LG : List It} {HL : List UInt8 → List It} {it : It} (h : IdxG w x n LA LG HL)
    (he : EntAt w' x.ib x.db 66 [.pointer (some ⟨x.gb, 0, none⟩), .map (some x.mb)] (depsL n (LA ++ [it])) (seqMax (LA ++ [it]))) (hk : KeptS (fun k => k = x.ib ∨ k = x.db) w w') : IdxG w' x n (LA ++ [it]) LG HL := by
  have hnd := h.nd1
  simp only [List.nodup_cons, List.mem_cons, List.not_mem_nil, or_false, not_or, List.nodup_nil, and_true, not_false_eq_true] at hnd
  refine { h with all := he, glob := h.glob.keptS hk ?_ ?_, homes := h.homes.keptS hk ?_, ents := fun p hp => (h.ents p hp).keptS hk ?_ ?_ }
  · omega
  · omega
  · omega
  · have := (h.nd2 p hp).1
    simp only [List.mem_cons, List.not_mem_nil, or_false, not_or] at this
    omega
  · have := (h.nd2 p hp).2
    simp only [List.mem_cons, List.not_mem_nil, or_false, not_or] at this
    omega
theorem IdxG.growGlob {w w' : World} {x : IdxP} {n : Nat} {LA LG : List It} {HL : List UInt8 → List It} {it : It} (h : IdxG w x n LA LG HL)
    (he : EntAt w' x.gb x.gd 63 [] (depsL n (LG ++ [it])) (seqMax (LG ++ [it]))) (hk : KeptS (fun k => k = x.gb ∨ k = x.gd) w w') : IdxG w' x n LA (LG ++ [it]) HL := by
  have hnd := h.nd1
  simp only [List.nodup_cons, List.mem_cons, List.not_mem_nil, or_false, not_or, List.nodup_nil, and_true, not_false_eq_true] at hnd
  refine { h with all := h.all.keptS hk ?_ ?_, glob := he, homes := h.homes.keptS hk ?_, ents := fun p hp => (h.ents p hp).keptS hk ?_ ?_ }
  · omega
  · omega
  · omega
  · have := (h.nd2 p hp).1
    simp only [List.mem_cons, List.not_mem_nil, or_false, not_or] at this
    omega
  · have := (h.nd2 p hp).2
    simp only [List.mem_cons, List.not_mem_nil, or_false, not_or] at this
    omega
theorem IdxG.growHome {w w' : World} {x : IdxP} {n : Nat} {LA LG : List It} {HL : List UInt8 → List It} {it : It} {p : List UInt8 × Nat × Nat} (h : IdxG w x n LA LG HL) (hp : p ∈ x.hs)
    (he : EntAt w' p.2.1 p.2.2 63 [] (depsL n (HL p.1 ++ [it])) (seqMax (HL p.1 ++ [it]))) (hk : KeptS (fun k => k = p.2.1 ∨ k = p.2.2) w w') :
    IdxG w' x n LA LG (fun k => if k = p.1 then HL k ++ [it] else HL k) := by
  have h2 := h.nd2 p hp
  simp only [List.mem_cons, List.not_mem_nil, or_false, not_or] at h2
  refine { h with all := h.all.keptS hk ?_ ?_, glob := h.glob.keptS hk ?_ ?_, homes := h.homes.keptS hk ?_, ents := fun q hq => ?_ }
  · omega
  · omega
  · omega
  · omega
  · omega
  · by_cases e : q.1 = p.1
    · obtain rfl := h.one hq hp e
      simpa using he
    · have ha := h.apart hq hp (fun h => e (by rw [h]))
      unfold Apart at ha
      simp only [if_neg e]
      exact (h.ents q hq).keptS hk (by omega) (by omega)
theorem IdxG.newHome {w w' : World} {x : IdxP} {n : Nat} {LA LG : List It} {HL : List UInt8 → List It} {home : List UInt8} {eb db : Nat} (h : IdxG w x n LA LG HL) (hn : home ∉ x.hs.map (·.1)) (hh : HL home = [])
    (he : EntAt w' eb db 63 [] (depsL n []) (seqMax [])) (hm : MapAt w' x.mb tkey (hmap x.hs ++ [(home, .pointer (some ⟨eb, 0, none⟩))])) (hk : KeptS (fun k => k = x.mb) w w') (heb : ∀ k, x.Has k → k < eb) (hdb : ∀ k, x.Has k → k < db) :
    IdxG w' { x with hs := x.hs ++ [(home, eb, db)] } n LA LG HL := by
  have hnd := h.nd1
  simp only [List.nodup_cons, List.mem_cons, List.not_mem_nil, or_false, not_or, List.nodup_nil, and_true, not_false_eq_true] at hnd
  have l1 := heb x.ib (.inl rfl)
  have l2 := heb x.db (.inr (.inl rfl))
  have l3 := heb x.gb (.inr (.inr (.inl rfl)))
  have l4 := heb x.gd (.inr (.inr (.inr (.inl rfl))))
  have l5 := heb x.mb (.inr (.inr (.inr (.inr (.inl rfl)))))
  have m1 := hdb x.ib (.inl rfl)
  have m2 := hdb x.db (.inr (.inl rfl))
  have m3 := hdb x.gb (.inr (.inr (.inl rfl)))
  have m4 := hdb x.gd (.inr (.inr (.inr (.inl rfl))))
  have m5 := hdb x.mb (.inr (.inr (.inr (.inr (.inl rfl)))))
  refine ⟨h.all.keptS hk ?_ ?_, h.glob.keptS hk ?_ ?_, ?_, fun p hp => ?_, h.nd1, fun p hp => ?_, ?_⟩
  · omega
  · omega
  · omega
  · omega
  · simpa [hmap] using hm
  · rcases List.mem_append.1 hp with hp | hp
    · have h2 := h.nd2 p hp
      simp only [List.mem_cons, List.not_mem_nil, or_false, not_or] at h2
      exact (h.ents p hp).keptS hk (by omega) (by omega)
    · simp only [List.mem_singleton] at hp
      subst hp
      show EntAt w' eb db _ [] (depsL n (HL home)) (seqMax (HL home))
      rw [hh]; exact he
  · rcases List.mem_append.1 hp with hp | hp
    · exact h.nd2 p hp
    · simp only [List.mem_singleton] at hp
      subst hp
      simp only [List.mem_cons, List.not_mem_nil, or_false, not_or]
      omega
  · show (x.hs ++ [(home, eb, db)]).Pairwise Apart
    rw [List.pairwise_append]
    refine ⟨h.nd3, List.pairwise_singleton _ _, fun p hp q hq => ?_⟩
    simp only [List.mem_singleton] at hq
    subst hq
    have a1 := heb p.2.1 (.inr (.inr (.inr (.inr (.inr ⟨p, hp, .inl rfl⟩)))))
    have a2 := heb p.2.2 (.inr (.inr (.inr (.inr (.inr ⟨p, hp, .inr rfl⟩)))))
    have a3 := hdb p.2.1 (.inr (.inr (.inr (.inr (.inr ⟨p, hp, .inl rfl⟩)))))
    have a4 := hdb p.2.2 (.inr (.inr (.inr (.inr (.inr ⟨p, hp, .inr rfl⟩)))))
    unfold Apart
    simp only
    omega

/-- The index of what was added. -/
structure IdxAt (w : World) (x : IdxP) (n : Nat) (S : List It) : Prop where
  g : IdxG w x n (allL S) (globL S) (fun h => homeL h S)
  keys : ∀ h, h ∈ x.hs.map (·.1) ↔ ∃ i ∈ S, i.kind = 1 ∧ i.home = h
  good : ∀ i ∈ S, GoodIt n i
  n1 : 1 ≤ n
  n7 : n ≤ 7
theorem IdxAt.below {w w' : World} {x : IdxP} {n : Nat} {S : List It} (h : IdxAt w x n S) (hb : Below w.heap.size w w') : IdxAt w' x n S := { h with g := h.g.below hb }
theorem IdxAt.keptS {T : Nat → Prop} {w w' : World} {x : IdxP} {n : Nat} {S : List It} (h : IdxAt w x n S) (hk : KeptS T w w') (hn : ∀ k, x.Has k → ¬ T k) : IdxAt w' x n S := { h with g := h.g.keptS hk hn }
theorem depsL_nil (n : Nat) : depsL n [] = List.replicate n 0 := by
  apply List.ext_getElem
  · rw [depsL_len, List.length_replicate]
  · intro i h1 h2
    rw [depsL_get, List.getElem_replicate]; rfl
theorem interf_newN (n : Int) (w : World) (h : n < 1 ∨ 7 < n) : Calls Try.prog 13 #[.int .i64 n] w fun e w' => e = .returned (.tuple #[.pointer none, .int .i64 90]) ∧ w = w' := by
  go_enter Try.func13, Try.ntmps13
  go_wp2_with fail
  refine (vec_zero n w h).mono ?_
  rintro e w1 ⟨rfl, rfl⟩
  clear h
  go_wp2_with fail
  go_ret2
  exact ⟨rfl, rfl⟩
set_option maxHeartbeats 1000000 in
theorem interf_new (n : Nat) (w : World) (h1 : 1 ≤ n) (h7 : n ≤ 7) : Calls Try.prog 13 #[.int .i64 n] w fun e w' =>
    ∃ x : IdxP, e = .returned (.tuple #[.pointer (some ⟨x.ib, 0, none⟩), .int .i64 0]) ∧ IdxAt w' x n [] ∧ (∀ k, x.Has k → w.heap.size ≤ k) ∧ Below w.heap.size w w' := by
  have hmm := @run_makeMap Try.prog
  go_enter Try.func13, Try.ntmps13
  go_wp2_with fail
  refine (vec_zeroN n w h1 h7).mono ?_
  rintro e w1 ⟨cu, rfl, ho, hc, hb⟩
  have HO := hid ho
  have HC := hid hc
  have HB := hid hb
  clear ho hc hb
  generalize hzb : w.heap.size = zb at *
  have HZB := hid hzb
  clear hzb
  go_wp2_with fail
  have hcl := vec_clone (some ⟨zb, 0, none⟩) n (List.replicate n 0) w1 (Cells.row HO.out HC.out) (by simp; omega) (by simp; omega)
  rw [List.length_replicate] at hcl
  refine hcl.mono ?_
  rintro e w2 ⟨g, cap, cu2, rfl, ho, hc, hcp, hcm, hgb, hb⟩
  clear hcl
  rw [List.length_replicate]
  have HO2 := hid ho
  have HC2 := hid hc
  have HB2 := hid hb
  clear ho hc hb
  go_wp2_with fail
  go_ret2
  have hgl := HO2.out.lt
  have hzl := HO.out.lt
  have hs12 := HB2.out.size
  have hA := ObjAt.new w2 63 #[.int .i64 0, .slice (some ⟨g, 0, none⟩) n cap]
  have hbA := below_new (w := w2) (.cells #[.int .i64 0, .slice (some ⟨g, 0, none⟩) n cap] 63)
  have hsA : (w2.alloc (.cells #[.int .i64 0, .slice (some ⟨g, 0, none⟩) n cap] 63)).heap.size = w2.heap.size + 1 := by simp
  have hO1 := HO.out.below HB2.out
  have hO1A := hO1.below hbA
  have hO2A := HO2.out.below hbA
  generalize w2.alloc (.cells #[.int .i64 0, .slice (some ⟨g, 0, none⟩) n cap] 63) = W1 at *
  have hM := MapAt.new W1 tkey
  rw [hsA] at hM
  have hbM := below_new (w := W1) (.map #[] 0)
  have hsM : (W1.alloc (.map #[] 0)).heap.size = w2.heap.size + 2 := by simp [hsA]
  have hAM := hA.below hbM
  have hO1M := hO1A.below hbM
  have hO2M := hO2A.below hbM
  generalize W1.alloc (.map #[] 0) = W2 at *
  have hI := ObjAt.new W2 66 #[.int .i64 0, .slice (some ⟨zb, 0, none⟩) n n, .pointer (some ⟨w2.heap.size, 0, none⟩), .map (some (w2.heap.size + 1))]
  rw [hsM] at hI
  have hbI := below_new (w := W2) (.cells #[.int .i64 0, .slice (some ⟨zb, 0, none⟩) n n, .pointer (some ⟨w2.heap.size, 0, none⟩), .map (some (w2.heap.size + 1))] 66)
  have hAI := hAM.below hbI
  have hMI := hM.below hbI
  have hO1I := hO1M.below hbI
  have hO2I := hO2M.below hbI
  have hmax : n ≤ maxLen := by unfold maxLen; omega
  rw [List.length_replicate] at hcp
  refine ⟨⟨w2.heap.size + 2, zb, w2.heap.size, g, w2.heap.size + 1, []⟩, rfl, ?_, ?_, ?_⟩
  · refine ⟨⟨?_, ?_, hMI, by simp, ?_, by simp, List.Pairwise.nil⟩, by simp, by simp, h1, h7⟩
    · refine ⟨n, cu, ?_, hO1I, ?_, ?_, hmax, ?_⟩
      · rw [show (depsL n (allL [])).length = n from depsL_len _ _]; exact hI
      · rw [show allL [] = [] from rfl, depsL_nil]; exact HC.out
      · rw [depsL_len]; exact Nat.le_refl _
      · show w2.heap.size + 2 ≠ zb; omega
    · refine ⟨cap, cu2, ?_, hO2I, ?_, ?_, hcm, ?_⟩
      · rw [show (depsL n (globL [])).length = n from depsL_len _ _]; exact hAI
      · rw [show globL [] = [] from rfl, depsL_nil]; exact HC2.out
      · rw [depsL_len]; exact hcp
      · show w2.heap.size ≠ g; omega
    · have h1' : w1.heap.size ≤ w2.heap.size := hs12
      simp only [List.nodup_cons, List.mem_cons, List.not_mem_nil, or_false, not_or, List.nodup_nil, and_true, not_false_eq_true]
      omega
  · intro k hk
    have hz := HZB.out
    have hz2 : w.heap.size ≤ w1.heap.size := by rw [hz]; omega
    rcases hk with e | e | e | e | e | ⟨p, hp, -⟩
    · have e : k = w2.heap.size + 2 := e
      omega
    · have e : k = zb := e
      omega
    · have e : k = w2.heap.size := e
      omega
    · have e : k = g := e
      omega
    · have e : k = w2.heap.size + 1 := e
      omega
    · cases hp
  · rw [HZB.out]
    exact ((HB.out.trans (HB2.out.mono (by omega))).trans (hbA.mono (by omega))).trans ((hbM.mono (by omega)).trans (hbI.mono (by omega)))
end Go.Proofs.Ytongefjadoidbaa
