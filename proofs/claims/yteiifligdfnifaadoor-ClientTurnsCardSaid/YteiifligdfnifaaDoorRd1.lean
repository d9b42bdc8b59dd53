/-
  wire.Reader: NewReader, Num, Blob, Text, Left, Err.
-/
import Derived.Test.YteiifligdfnifaaDoorOwn
import Derived.Test.YteiifligdfnifaaDoorDec
import Derived.Test.YteiifligdfnifaaDoorWrP
import Derived.Test.YteiifligdfnifaaDoorClone
namespace Go.Proofs.YteiifligdfnifaaDoor
open Go.RowKit
set_option maxRecDepth 100000
set_option linter.unusedVariables false

/-- The reader at r holds s. -/
def RdAt (w : World) (r : Nat) (s : RSt) : Prop := ∃ v, ObjAt w r 118 #[v, .int .i64 s.2] ∧ IsBytes w v s.1 ∧ ∀ k, v.ownBlock = some k → k ≠ r
theorem RdAt.below {w w' : World} {r : Nat} {s : RSt} (h : RdAt w r s) (hb : Below w.heap.size w w') : RdAt w' r s := by
  obtain ⟨v, h1, h2, h3⟩ := h
  exact ⟨v, h1.below hb, h2.below hb, h3⟩
theorem RdAt.lt {w : World} {r : Nat} {s : RSt} (h : RdAt w r s) : r < w.heap.size := by
  obtain ⟨v, h1, -⟩ := h
  exact h1.lt
theorem isBytes_kept {w w' : World} {v : Value} {l : List UInt8} {r : Nat} (h : IsBytes w v l) (hk : Kept w.heap.size r w w') (hn : ∀ k, v.ownBlock = some k → k ≠ r) : IsBytes w' v l :=
  h.keptS (KeptS.of_kept hk (S := fun q => q = r) rfl) hn
theorem rd_set {w : World} {r : Nat} {v v' : Value} {er e' : Int} {l' : List UInt8} (h : ObjAt w r 118 #[v, .int .i64 er]) (hb : IsBytes w v' l') (hn : ∀ k, v'.ownBlock = some k → k ≠ r) :
    RdAt ((w.setCell ⟨r, 1, none⟩ (.int .i64 e')).setCell ⟨r, 0, none⟩ v') r (l', e') ∧ Kept w.heap.size r w ((w.setCell ⟨r, 1, none⟩ (.int .i64 e')).setCell ⟨r, 0, none⟩ v') := by
  have hk := (Kept.set (B := w.heap.size) w ⟨r, 1, none⟩ (.int .i64 e')).trans (Kept.set (w.setCell ⟨r, 1, none⟩ (.int .i64 e')) ⟨r, 0, none⟩ v')
  exact ⟨⟨v', (h.set 1 (.int .i64 e')).set 0 v', isBytes_kept hb hk hn, hn⟩, hk⟩
theorem rd_set0 {w : World} {r : Nat} {v v' : Value} {er : Int} {l' : List UInt8} (h : ObjAt w r 118 #[v, .int .i64 er]) (hb : IsBytes w v' l') (hn : ∀ k, v'.ownBlock = some k → k ≠ r) :
    RdAt (w.setCell ⟨r, 0, none⟩ v') r (l', er) ∧ Kept w.heap.size r w (w.setCell ⟨r, 0, none⟩ v') := by
  have hk := Kept.set (B := w.heap.size) w ⟨r, 0, none⟩ v'
  exact ⟨⟨v', h.set 0 v', isBytes_kept hb hk hn, hn⟩, hk⟩
theorem part_block {a : Option Addr} {n n' c c' m k : Nat} (h : (Value.slice (if c = m then a else Option.map (fun x => x.add m) a) n' c').ownBlock = some k) : (Value.slice a n c).ownBlock = some k := by
  cases a with
  | none => split at h <;> exact h
  | some ad =>
    split at h
    · exact h
    · simp only [Option.map_some, Value.ownBlock, Option.some.injEq] at h ⊢
      rw [← h]
      unfold Addr.add
      split <;> rfl

theorem new_reader (v : Value) (l : List UInt8) (w : World) (hv : IsBytes w v l) (hm : l.length ≤ 140737488355328) :
    Calls Tryd.prog 38 #[v] w fun e w' => ∃ r, e = .returned (.pointer (some ⟨r, 0, none⟩)) ∧ RdAt w' r (l, 0) ∧ Below w.heap.size w w' ∧ w.heap.size ≤ r := by
  have HV := hid hv
  clear hv
  go_enter Tryd.func38, Tryd.ntmps38
  go_wp2_with fail
  refine (bytes_clone v l w HV.out hm).mono ?_
  rintro e w1 ⟨v1, rfl, ho, hb⟩
  have HO := hid ho
  have HB := hid hb
  obtain ⟨a1, c1, rfl, -⟩ := owns_row ho
  clear ho hb
  go_wp2_with fail
  go_ret
  exact ⟨w1.heap.size, rfl, ⟨_, ObjAt.new w1 118 #[.slice a1 l.length c1, .int .i64 0], (owns_bytes HO.out).below (below_new _), fun k e => by have := (HO.out.lt k e).2; omega⟩, below_next HB.out (below_new _), HB.out.size⟩

set_option maxHeartbeats 1600000 in
theorem rd_num (r : Nat) (s : RSt) (w : World) (h : RdAt w r s) :
    Calls Tryd.prog 39 #[.pointer (some ⟨r, 0, none⟩)] w fun e w' => e = .returned (.int .i64 (rdNum s).1) ∧ RdAt w' r (rdNum s).2 ∧ Kept w.heap.size r w w' := by
  have HH := hid h
  obtain ⟨l, er⟩ := s
  obtain ⟨v, ho, hb, hn⟩ := h
  dsimp only at ho hb
  by_cases he : er = 0
  · subst he
    have HE : Hid (rdNum (l, 0) = (((decode l).1 : Int), l.drop (decode l).2.1, ((decode l).2.2 : Int))) := by
      show _ = _
      unfold rdNum
      rw [if_pos rfl]
    rw [HE.out]
    obtain ⟨a, c, rfl, hr, h0, h1, h2⟩ := id hb
    have HB := hid hb
    have HN := hid hn
    have HO := hid ho
    have c0 := ho.cell 0 _ rfl
    have c1 := ho.cell 1 _ rfl
    have f0 := ho.frozen 0
    have f1 := ho.frozen 1
    clear HH HE hb hn ho hr
    unfold maxLen at h2
    go_enter Tryd.func39, Tryd.ntmps39
    go_wp2_with fail
    refine (wire_number _ l 0 w HB.out).mono ?_
    rintro e w' ⟨rfl, rfl⟩
    rw [decodeAt_zero]
    rcases decode_cases l with ⟨n, u, hd, hu, hn⟩ | ⟨e, hd, he⟩
    · rw [hd]
      have HD := hid hd
      clear hd
      have hp := bytes_part HB.out u (l.length - u) (by omega)
      have e1 : (l.drop u).take (l.length - u) = l.drop u := List.take_of_length_le (by rw [List.length_drop]; exact Nat.le_refl _)
      rw [e1] at hp
      obtain ⟨q1, q2⟩ := rd_set (e' := 0) HO.out hp (fun k e => HN.out k (part_block e))
      have Q1 := hid q1
      have Q2 := hid q2
      clear q1 q2 hp e1 HB HO
      by_cases hcu : c = u
      · rw [if_pos hcu, show c - u = 0 from by omega] at Q1 Q2
        go_wp2
        go_ret
        rw [HD.out]
        exact ⟨rfl, Q1.out, Q2.out⟩
      · rw [if_neg hcu] at Q1 Q2
        go_wp2
        go_ret
        rw [HD.out]
        exact ⟨rfl, Q1.out, Q2.out⟩
    · rw [hd]
      have HD := hid hd
      clear hd
      obtain ⟨q1, q2⟩ := rd_set (e' := e) HO.out HB.out HN.out
      have Q1 := hid q1
      have Q2 := hid q2
      clear q1 q2 HB HO
      by_cases hcu : c = 0
      · subst hcu
        have h00 : l.length = 0 := by omega
        rw [h00] at Q1 Q2
        go_wp2
        go_ret
        rw [HD.out]
        exact ⟨rfl, Q1.out, Q2.out⟩
      · go_wp2
        go_ret
        rw [HD.out]
        exact ⟨rfl, Q1.out, Q2.out⟩
  · have HE : Hid (rdNum (l, er) = (0, l, er)) := by
      show _ = _
      unfold rdNum
      rw [if_neg he]
    have c1 := ho.cell 1 _ rfl
    rw [HE.out]
    clear ho hb hn
    have e1 : (er == 0) = false := beq_eq_false_iff_ne.2 he
    go_enter Tryd.func39, Tryd.ntmps39
    go_wp2
    go_ret
    exact ⟨rfl, HH.out, Kept.refl _ _ _⟩

theorem rd_err (r : Nat) (s : RSt) (w : World) (h : RdAt w r s) : Calls Tryd.prog 44 #[.pointer (some ⟨r, 0, none⟩)] w fun e w' => e = .returned (.int .i64 s.2) ∧ w = w' := by
  obtain ⟨v, ho, hb, hn⟩ := h
  have c1 := ho.cell 1 _ rfl
  clear ho hb hn
  go_enter Tryd.func44, Tryd.ntmps44
  go_wp2
  go_ret
  exact ⟨rfl, rfl⟩
theorem rd_left (r : Nat) (s : RSt) (w : World) (h : RdAt w r s) : Calls Tryd.prog 45 #[.pointer (some ⟨r, 0, none⟩)] w fun e w' => e = .returned (.int .i64 s.1.length) ∧ w = w' := by
  obtain ⟨v, ho, ⟨a, c, rfl, hr, h0, h1, h2⟩, hn⟩ := h
  have c0 := ho.cell 0 _ rfl
  clear ho hr hn
  unfold maxLen at h2
  go_enter Tryd.func45, Tryd.ntmps45
  go_wp2
  go_ret
  exact ⟨rfl, rfl⟩
end Go.Proofs.YteiifligdfnifaaDoor
