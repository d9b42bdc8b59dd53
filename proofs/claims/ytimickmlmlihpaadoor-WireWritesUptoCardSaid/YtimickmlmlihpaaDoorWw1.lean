/-
  WireWrites: what its first loop holds.
-/
import Derived.Test.YtimickmlmlihpaaDoorWr9
import Derived.Test.YtimickmlmlihpaaDoorCopyI
import Derived.Deep.AppendLies
namespace Go.Proofs.YtimickmlmlihpaaDoor
open Go.RowKit
set_option maxRecDepth 100000
set_option linter.unusedVariables false

theorem wpList_app_lies {P : Program} {w : World} {ops : Array Oper} {rest : List Oper} {o : Oper} {a : Act} {Q : Exit → Act → World → Prop} (hgd : o.guard = Option.none) (s x : Operand) (t : TypeId)
    (ho : o.op = .call { callee := .builtin .append, args := #[s, x], argTypes := #[t, t] })
    (base : Nat) (e : TypeId) (ht : P.underlying t = some (.slice e)) (hinfo : (P.info? e).map (fun i => (i.zero, i.size, i.bytes)) = some (some (.int .u8 0), 1, 1))
    (v v2 : Value) (ys l : List UInt8) (base2 : Nat) (hs : a.eval s = v) (hown : w.ownsRow base e 1 v ys.length (ys.map byt))
    (hx : a.eval x = v2) (hb : w.ownsRow base2 e 1 v2 l.length (l.map byt)) (hl : 0 < l.length) (hlen : ys.length + l.length ≤ 140737488355328) (hbase : base ≤ w.heap.size)
    (h : ∀ g cap w1, w1.ownsRow base e 1 (.slice (some ⟨g, 0, Option.none⟩) (ys ++ l).length cap) (ys ++ l).length ((ys ++ l).map byt) → w.grownBy w1 v.ownBlock → (v.ownBlock = some g ∨ g = w.heap.size) → wpList P ops Q rest (a.put o.dst (.slice (some ⟨g, 0, Option.none⟩) (ys ++ l).length cap)) w1) :
    wpList P ops Q (o :: rest) a w := by
  obtain ⟨k, c, rfl, -, hr⟩ := own_at hb hl
  obtain ⟨i, hi, hz, hsize, hby⟩ := info_parts hinfo
  refine wpList_append_lies w hgd s x t ho base e i _ 1 1 ht hi hz hsize hby rfl (by omega) v ys.length (ys.map byt) hs hown ⟨k, 0, none⟩ l.length c (l.map byt) hx (by simp) hr.add (oneCell_bytes _) hl (by unfold maxLen; omega) (by omega) hbase _ rfl ?_
  intro g cap w1 ho1 hg hat _
  have := h g cap w1
  rw [List.length_append, List.map_append] at this
  exact this ho1 hg hat

/-- An item: its kind, its number, its bytes. -/
structure Itm where
  k : Int
  n : Int
  v : Value
  l : List UInt8
def itC (i : Itm) : List Value := [.int .i64 i.k, .int .i64 i.n, i.v]
def itemW (s : WSt) (i : Itm) : WSt := if i.k = 1 then numW s i.n else if i.k = 2 ∨ i.k = 3 then blobW s i.l else s
def itemsW (s : WSt) (its : List Itm) : WSt := its.foldl itemW s
theorem itemsW_take (s : WSt) (its : List Itm) (k : Nat) (h : k < its.length) : itemsW s (its.take (k + 1)) = itemW (itemsW s (its.take k)) its[k] := by
  unfold itemsW
  rw [List.take_succ_eq_append_getElem h, List.foldl_append]; rfl
def itLen (its : List Itm) : Nat := (its.map fun i => 9 + i.l.length).sum
theorem itemW_len (s : WSt) (i : Itm) (h : i.l.length < 2 ^ 63) : (itemW s i).1.length ≤ s.1.length + (9 + i.l.length) := by
  unfold itemW
  split
  · have := numW_len s i.n; omega
  · split
    · have := blobW_len s i.l h; omega
    · omega
theorem itemsW_len : ∀ (its : List Itm) (s : WSt), (∀ i ∈ its, i.l.length < 2 ^ 63) → (itemsW s its).1.length ≤ s.1.length + itLen its
  | [], s, _ => by simp [itemsW, itLen]
  | i :: its, s, h => by
    have h1 := itemsW_len its (itemW s i) (fun x hx => h x (List.mem_cons_of_mem _ hx))
    have h2 := itemW_len s i (h i (List.mem_cons_self ..))
    have e : itLen (i :: its) = (9 + i.l.length) + itLen its := by simp [itLen]
    show (itemsW (itemW s i) its).1.length ≤ _
    rw [e]; omega
theorem itLen_take (its : List Itm) (k : Nat) (h : k < its.length) : itLen (its.take k) + (9 + its[k].l.length) ≤ itLen its := by
  have e : itLen its = itLen (its.take (k + 1)) + itLen (its.drop (k + 1)) := by
    conv => lhs; rw [← List.take_append_drop (k + 1) its]
    unfold itLen
    rw [List.map_append, List.sum_append]
  have e2 : itLen (its.take (k + 1)) = itLen (its.take k) + (9 + its[k].l.length) := by
    rw [List.take_succ_eq_append_getElem h]
    unfold itLen
    rw [List.map_append, List.sum_append]; simp
  omega
theorem itLen_mem {its : List Itm} {i : Itm} (h : i ∈ its) : i.l.length ≤ itLen its := by
  obtain ⟨k, hk, rfl⟩ := List.getElem_of_mem h
  have := itLen_take its k hk; omega

/-- What the first loop holds: the writer at nb holds s, want's bytes are t. -/
structure Lp (w0 w : World) (nb : Nat) (g : Option Nat) (s : WSt) (want : Value) (t : List UInt8) : Prop where
  wr : WrAt w nb g (s.1.map byt) s.2
  own : w.ownsRow nb 5 1 want t.length (t.map byt)
  ap : ∀ k, want.ownBlock = some k → ¬ WB nb g k
  gb : ∀ k, g = some k → nb ≤ k
  bel : Below nb w0 w
  n0 : nb ≤ w.heap.size
theorem wb_nb {nb : Nat} {g : Option Nat} (hg : ∀ k, g = some k → nb ≤ k) : ∀ k, WB nb g k → nb ≤ k := fun k h => by
  rcases h with h | h
  · omega
  · exact hg k h
theorem Lp.below {w0 w w' : World} {nb : Nat} {g : Option Nat} {s : WSt} {want : Value} {t : List UInt8} (h : Lp w0 w nb g s want t) (hb : Below w.heap.size w w') : Lp w0 w' nb g s want t :=
  ⟨h.wr.below hb, owns_below h.own hb, h.ap, h.gb, h.bel.trans (hb.mono h.n0), Nat.le_trans h.n0 hb.size⟩
theorem Lp.write {w0 w w' : World} {nb : Nat} {g : Option Nat} {s s' : WSt} {want : Value} {t : List UInt8} (h : Lp w0 w nb g s want t) (hp : WrTo w nb g s' w') : ∃ g', Lp w0 w' nb g' s' want t := by
  obtain ⟨g', h1, h2, h3⟩ := hp
  refine ⟨g', h1, own_keptS h.own h2 h.ap, fun k hk hw => ?_, fun k e => ?_, h.bel.trans (h2.below (wb_nb h.gb) h.n0), Nat.le_trans h.n0 h2.size⟩
  · rcases hw with hw | hw
    · exact h.ap k hk (.inl hw)
    · rcases h3 k hw with hh | hh
      · exact h.ap k hk (.inr hh)
      · have := (h.own.lt k hk).2; omega
  · rcases h3 k e with hh | hh
    · exact h.gb k hh
    · exact Nat.le_trans h.n0 hh
theorem Lp.app {w0 w w1 : World} {nb gg cap : Nat} {g : Option Nat} {s : WSt} {want : Value} {t t' : List UInt8} (h : Lp w0 w nb g s want t) (ho : w1.ownsRow nb 5 1 (.slice (some ⟨gg, 0, none⟩) t'.length cap) t'.length (t'.map byt))
    (hg : w.grownBy w1 want.ownBlock) (hat : want.ownBlock = some gg ∨ gg = w.heap.size) : Lp w0 w1 nb g s (.slice (some ⟨gg, 0, none⟩) t'.length cap) t' := by
  refine ⟨h.wr.keptS (KeptS.grown hg) (fun k hk e => h.ap k e hk), ho, fun k hk hw => ?_, h.gb, h.bel.trans ((KeptS.grown hg).below (fun k e => (h.own.lt k e).1) h.n0), Nat.le_trans h.n0 hg.size⟩
  simp only [Value.ownBlock, Option.some.injEq] at hk
  subst hk
  rcases hat with hat | hat
  · exact h.ap _ hat hw
  · have := h.wr.lt _ hw; omega
theorem Lp.apart {w0 w : World} {nb : Nat} {g : Option Nat} {s : WSt} {want : Value} {t : List UInt8} (h : Lp w0 w nb g s want t) : ∀ k, w.heap.size ≤ k → ¬ WB nb g k := fun k hk hw => by
  have := h.wr.lt k hw; omega

theorem ref_blob (v : Value) (l : List UInt8) (w : World) (hv : IsBytes w v l) (hm : l.length ≤ 1073741824) :
    Calls Tryd.prog 11 #[v] w fun e w' => ∃ v', e = .returned v' ∧ w'.ownsRow w.heap.size 5 1 v' (enc l.length ++ l).length ((enc l.length ++ l).map byt) ∧ Below w.heap.size w w' := by
  have HV := hid hv
  obtain ⟨a, c, rfl, -, h0, h1, h2⟩ := hv
  unfold maxLen at h2
  go_enter Tryd.func11, Tryd.ntmps11
  go_wp2_with fail
  refine (ref_put l.length w (by omega)).mono ?_
  rintro e w1 ⟨v1, rfl, ho, hb⟩
  have HB1 := hid hb
  have HO1 := hid (owns_bytes ho)
  have HV1 := hid (HV.out.below hb)
  have h9 := enc_length9 (n := l.length) (by omega)
  obtain ⟨a1, c1, rfl, -⟩ := owns_row ho
  clear ho hb
  go_wp2_with fail
  have hba := below_new (w := w1) (.cells #[.slice a1 (enc l.length).length c1, .slice a l.length c] 23)
  refine (ref_join _ 2 [.slice a1 (enc l.length).length c1, .slice a l.length c] [enc l.length, l] _ (RowAt.new w1 #[.slice a1 (enc l.length).length c1, .slice a l.length c] _ _) (allBytes_cons (HO1.out.below hba) (allBytes_one (HV1.out.below hba))) (by simp; omega) (by simp)).mono ?_
  rintro e w2 ⟨v2, rfl, ho, hb⟩
  have HB2 := hid (below_next (below_next HB1.out hba) hb)
  have HO2 := hid (owns_base (base' := w.heap.size) ho (by have := HB1.out.size; simp; omega))
  clear ho hb hba
  simp only [List.flatten_cons, List.flatten_nil, List.append_nil] at HO2
  go_wp2_with fail
  go_ret
  exact ⟨v2, rfl, HO2.out, HB2.out⟩
end Go.Proofs.YtimickmlmlihpaaDoor
