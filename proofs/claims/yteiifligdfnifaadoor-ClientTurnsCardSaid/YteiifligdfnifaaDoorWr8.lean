/-
  wire.Writer: Nums, Blobs, Texts, Out.
-/
import Derived.Test.YteiifligdfnifaaDoorWr7
namespace Go.Proofs.YteiifligdfnifaaDoor
open Go.RowKit
set_option maxRecDepth 100000
set_option linter.unusedVariables false

/-- The address lies off a writer's blocks. -/
def OffW (w : World) (b : Nat) (g : Option Nat) (a : Option Addr) : Prop := ∀ ad, a = some ad → ad.block < w.heap.size → ¬ WB b g ad.block
theorem OffW.row {w w' : World} {b : Nat} {g : Option Nat} {a : Option Addr} {vs : List Value} (h : OffW w b g a) (hr : RowAt w a vs) (hk : KeptS (WB b g) w w') : RowAt w' a vs := hr.keptL hk h
theorem WrTo.kept {w0 w : World} {b : Nat} {g0 : Option Nat} {s : WSt} (h : WrTo w0 b g0 s w) : KeptS (WB b g0) w0 w := by obtain ⟨g, -, h2, -⟩ := h; exact h2
theorem int_at {w : World} {a : Option Addr} {ns : List Int} (h : RowAt w a (ns.map (Value.int .i64))) {k : Nat} (hk : k < ns.length) : ∃ b o, a = some ⟨b, o, none⟩ ∧ w.cell? ⟨b, o + k, none⟩ = some (.int .i64 ns[k]) := by
  obtain ⟨b, o, e, hc⟩ := h.at k (by simpa using hk)
  exact ⟨b, o, e, by simpa using hc⟩

theorem ne_of_lt {α : Type} {l : List α} {k : Nat} (h : k < l.length) : l ≠ [] := fun e => by rw [e] at h; exact absurd h (Nat.not_lt_zero _)
theorem IsBytes.keptE {S : Nat → Prop} {w w' : World} {v : Value} {l : List UInt8} (h : IsBytes w v l) (hk : KeptS S w w') (hn : l ≠ [] → ∀ k, v.ownBlock = some k → ¬ S k) : IsBytes w' v l := by
  obtain ⟨a, c, rfl, hr, h0, h1, h2⟩ := h
  refine ⟨a, c, rfl, ?_, h0, h1, h2⟩
  cases l with
  | nil => exact RowAt.nil _ _
  | cons x l => exact hr.keptS hk (fun ad e => hn (by simp) _ (by rw [e]; rfl))
/-- The bytes that are not empty lie off a writer's blocks. -/
def OffV (b : Nat) (g : Option Nat) (vs : List Value) (ls : List (List UInt8)) : Prop := ∀ (j : Nat) v l, vs[j]? = some v → ls[j]? = some l → l ≠ [] → ∀ k, v.ownBlock = some k → ¬ WB b g k

set_option maxHeartbeats 3200000 in
theorem wr_nums (b : Nat) (g : Option Nat) (s : WSt) (a : Option Addr) (ns : List Int) (cap : Nat) (w : World) (h : WrAt w b g (s.1.map byt) s.2) (hr : RowAt w a (ns.map (Value.int .i64))) (ho : ns ≠ [] → OffW w b g a) (hm : s.1.length + 9 * ns.length ≤ 140737488355328) :
    Calls Tryd.prog 48 #[.pointer (some ⟨b, 0, none⟩), .slice a ns.length cap] w fun e w' => e = .returned (.tuple #[]) ∧ WrTo w b g (numsW s ns) w' := by
  have HR := hid hr
  have HO : Hid (ns ≠ [] → OffW w b g a) := ho
  have H0 := hid (WrTo.refl h)
  clear h hr ho
  go_enter Tryd.func48, Tryd.ntmps48
  go_wp2_with fail
  go_loopw [8] (fun i wr => ∃ k : Nat, i = .int .i64 k ∧ k ≤ ns.length ∧ Hid (WrTo w b g (numsW s (ns.take k)) wr)) (fun i _ => ns.length - (intOf i).toNat)
  case atStart => exact ⟨0, rfl, Nat.zero_le _, H0⟩
  case round =>
    clear H0
    obtain ⟨k, rfl, hk, HW⟩ := hrel
    by_cases hlt : k < ns.length
    · obtain ⟨x, o, rfl, hc⟩ := int_at ((HO.out (ne_of_lt hlt)).row HR.out HW.out.kept) hlt
      have HT := hid (numsW_take s ns k hlt)
      have hl : (numsW s (ns.take k)).1.length + 9 ≤ 140737488355328 := by
        have := numsW_len (ns.take k) s
        rw [List.length_take] at this; omega
      generalize ns[k] = n at *
      generalize numsW s (ns.take k) = t at *
      go_wp2_with fail
      obtain ⟨g1, h1, h2, h3⟩ := HW.out
      refine (buf_num b g1 t n wr h1 hl).mono ?_
      rintro e w1 ⟨rfl, hp⟩
      have HW1 := hid (WrTo.next h2 h3 hp)
      clear h1 h2 h3 hp hc HW
      go_wp2
      go_roundw
      case rel => exact ⟨k + 1, by go_num, by omega, by rw [HT.out]; exact HW1⟩
      case measure => simp [intOf]; omega
    · have hk2 : ns.take k = ns := List.take_of_length_le (by omega)
      rw [hk2] at HW
      go_wp2
      go_end0
      exact ⟨rfl, HW.out⟩

theorem bytes_at {w : World} {a : Option Addr} {vs : List Value} {ls : List (List UInt8)} (hr : RowAt w a vs) (hall : AllBytes w vs ls) {k : Nat} (hk : k < ls.length) : ∃ b o, a = some ⟨b, o, none⟩ ∧ ∃ v, vs[k]? = some v ∧ w.cell? ⟨b, o + k, none⟩ = some v ∧ IsBytes w v ls[k] := by
  have hk' : k < vs.length := by rw [hall.1]; exact hk
  obtain ⟨b, o, e, hc⟩ := hr.at k hk'
  exact ⟨b, o, e, vs[k], by simp [hk'], hc, hall.2 k _ _ (by simp [hk']) (by simp [hk])⟩
theorem part_le (ls : List (List UInt8)) (k : Nat) (h : k < ls.length) : (ls.take k).flatten.length + ls[k].length ≤ ls.flatten.length := by
  have h1 := flatten_take ls k h
  have h2 := flatten_take_le ls (k + 1)
  rw [h1, List.length_append] at h2; exact h2
theorem numW_len' (s : WSt) {l : List UInt8} (h : l.length ≤ 140737488355328) : numW s (l.length : Int) = (s.1 ++ enc l.length, s.2) := by
  unfold numW
  rw [if_pos ((isNum_iff _).2 ⟨by omega, by omega⟩), Int.toNat_natCast]

set_option maxHeartbeats 3200000 in
theorem wr_blobs (b : Nat) (g : Option Nat) (s : WSt) (a : Option Addr) (vs : List Value) (ls : List (List UInt8)) (cap : Nat) (w : World) (h : WrAt w b g (s.1.map byt) s.2) (hr : RowAt w a vs) (hall : AllBytes w vs ls) (ho : ls ≠ [] → OffW w b g a) (hv : OffV b g vs ls)
    (hm : s.1.length + 9 * ls.length + ls.flatten.length ≤ 140737488355328) :
    Calls Tryd.prog 50 #[.pointer (some ⟨b, 0, none⟩), .slice a ls.length cap] w fun e w' => e = .returned (.tuple #[]) ∧ WrTo w b g (blobsW s ls) w' := by
  have HR := hid hr
  have HA := hid hall
  have HV : Hid (OffV b g vs ls) := hv
  have HO : Hid (ls ≠ [] → OffW w b g a) := ho
  have H0 := hid (WrTo.refl h)
  clear h hr ho hall hv
  go_enter Tryd.func50, Tryd.ntmps50
  go_wp2_with fail
  go_loopw [8] (fun i wr => ∃ k : Nat, i = .int .i64 k ∧ k ≤ ls.length ∧ Hid (WrTo w b g (blobsW s (ls.take k)) wr)) (fun i _ => ls.length - (intOf i).toNat)
  case atStart => exact ⟨0, rfl, Nat.zero_le _, H0⟩
  case round =>
    clear H0
    obtain ⟨k, rfl, hk, HW⟩ := hrel
    by_cases hlt : k < ls.length
    · obtain ⟨x, o, rfl, v, hvk, hc0, hb⟩ := bytes_at HR.out HA.out hlt
      have hc := HW.out.kept.cell hc0 (show ¬ WB b g x from HO.out (ne_of_lt hlt) ⟨x, o, none⟩ rfl (by have := lt_of_cell hc0; exact this))
      have HT := hid (blobsW_take s ls k hlt)
      have hl1 := blobsW_len (ls.take k) s (fun l hl => by
        have := List.sublist_flatten_of_mem (List.mem_of_mem_take hl)
        have := this.length_le; omega)
      have hl2 := part_le ls k hlt
      rw [List.length_take] at hl1
      have hl : (blobsW s (ls.take k)).1.length + 9 + ls[k].length ≤ 140737488355328 := by omega
      have HVK := hid (HV.out k v ls[k] hvk (by simp [hlt]))
      have HB := hid (hb.keptE HW.out.kept HVK.out)
      clear hvk hc0 hl1 hl2
      generalize ls[k] = l at *
      generalize blobsW s (ls.take k) = t at *
      obtain ⟨g1, h1, h2, h3⟩ := HW.out
      obtain ⟨va, vc, rfl, hvr, -⟩ := HB.out
      have HNE : Hid (1 ≤ l.length → ∃ ad, va = some ad ∧ ad.block < w.heap.size ∧ ¬ WB b g ad.block) := by
        intro hp
        obtain ⟨a', c', e, hr0, -⟩ := hb
        simp only [Value.slice.injEq] at e
        obtain ⟨rfl, -⟩ := e
        cases va with
        | none => have := hr0.none; simp at this; rw [this] at hp; simp at hp
        | some ad =>
          have hlt := hr0.lt (by intro e; have := congrArg List.length e; simp at this; rw [this] at hp; simp at hp) ad rfl
          exact ⟨ad, rfl, hlt, HVK.out (by intro e; rw [e] at hp; simp at hp) _ rfl⟩
      clear hvr hb
      go_wp2_with fail
      refine (buf_num b g1 t l.length wr h1 (by omega)).mono ?_
      rintro e w1 ⟨rfl, hp⟩
      rw [numW_len' t (by omega)] at hp
      have HK1 := hid hp.kept
      have HP := hid hp
      clear hp hc
      go_wp2_with fail
      obtain ⟨g2, p1, p2, p3⟩ := HP.out
      by_cases h0 : l.length = 0
      · obtain rfl : l = [] := List.eq_nil_of_length_eq_zero h0
        simp only [List.length_nil] at p1 hlt ⊢
        refine (buf_write0 b g2 (t.1 ++ enc 0, t.2) va vc w1 p1).mono ?_
        rintro e w2 ⟨rfl, hp⟩
        have HW1 := hid (WrTo.next h2 h3 (WrTo.next p2 p3 hp))
        clear h1 h2 h3 p1 p2 p3 hp HW HP HK1 HNE HB HVK
        go_wp2
        go_roundw
        case rel => exact ⟨k + 1, by go_num, by omega, by rw [HT.out]; unfold blobW; rw [List.append_nil]; exact HW1⟩
        case measure => simp [intOf]; omega
      · obtain ⟨ad, rfl, hal, hnw⟩ := HNE.out (by omega)
        have hr1 : RowAt w1 (some ad) (l.map byt) := by
          obtain ⟨a', c', e, hr0, -⟩ := HB.out.keptE HK1.out (fun _ q hq hw => by
            simp only [Value.ownBlock, Option.some.injEq] at hq
            subst hq
            rcases hw with hw | hw
            · exact hnw (.inl hw)
            · rcases h3 _ hw with hw | hw
              · exact hnw (.inr hw)
              · omega)
          simp only [Value.slice.injEq] at e
          rw [e.1]; exact hr0
        refine (buf_write b g2 _ t.2 ad l vc w1 p1 (oneCell_bytes _) hr1 (fun e => hnw (.inl e)) (by omega) (by
          have := enc_length9 (n := l.length) (by omega)
          simp only [List.length_map, List.length_append]; omega)).mono ?_
        intro e w2 hp
        obtain ⟨rfl, hpw⟩ : e = .returned (.tuple #[.int .i64 l.length, .nilIface]) ∧ WrTo w1 b g2 (blobW t l) w2 := by
          refine WrTo.of_post ?_
          unfold blobW
          dsimp only
          rw [List.map_append (l₁ := t.1 ++ enc l.length)]; exact hp
        have HW1 := hid (WrTo.next h2 h3 (WrTo.next p2 p3 hpw))
        clear h1 h2 h3 p1 p2 p3 hp hpw HW HP HK1 HNE HB HVK hr1
        go_wp2
        go_roundw
        case rel => exact ⟨k + 1, by go_num, by omega, by rw [HT.out]; exact HW1⟩
        case measure => simp [intOf]; omega
    · have hk2 : ls.take k = ls := List.take_of_length_le (by omega)
      rw [hk2] at HW
      go_wp2
      go_end0
      exact ⟨rfl, HW.out⟩
end Go.Proofs.YteiifligdfnifaaDoor
