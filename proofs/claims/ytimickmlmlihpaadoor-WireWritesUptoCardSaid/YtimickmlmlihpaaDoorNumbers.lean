/-
  wire.Numbers, althingref01.Numbers: many numbers as bytes.
-/
import Derived.Test.YtimickmlmlihpaaDoorNum
namespace Go.Proofs.YtimickmlmlihpaaDoor
open Go.RowKit
set_option maxRecDepth 20000

/-- What Numbers answers: the bytes that are handed back. -/
def numbersBytes (ns : List Int) : List UInt8 := if ns.all isNum then encAll ns else []
def numbersErr (ns : List Int) : Int := if ns.all isNum then 0 else 10

set_option maxHeartbeats 800000 in
theorem wire_numbers (a : Option Addr) (cap : Nat) (ns : List Int) (w : World) (hr : RowAt w a (ns.map (Value.int .i64))) (hm : 9 * ns.length ≤ 140737488355328) :
    Calls Tryd.prog 34 #[.slice a ns.length cap] w fun e w' => ∃ v, e = .returned (.tuple #[v, .int .i64 (numbersErr ns)]) ∧ w'.ownsRow w.heap.size 5 1 v (numbersBytes ns).length ((numbersBytes ns).map byt) ∧ Below w.heap.size w w' := by
  go_enter Tryd.func34, Tryd.ntmps34
  go_wp2_with fail
  go_loopw [4, 9] (fun v i wr => ∃ k : Nat, i = .int .i64 k ∧ k ≤ ns.length ∧ Hid ((ns.take k).all isNum = true) ∧ wr.ownsRow w.heap.size 5 1 v (encAll (ns.take k)).length ((encAll (ns.take k)).map byt) ∧ Below w.heap.size w wr) (fun _ i _ => ns.length - (intOf i).toNat)
  case atStart => exact ⟨0, rfl, Nat.zero_le _, rfl, World.ownsRow_nil _ _ _ _, Below.refl _ _⟩
  case round =>
    obtain ⟨k, rfl, hk, hall, hown, hb⟩ := hrel
    have HO := hid hown
    have HB := hid hb
    have hbs := hb.size
    by_cases hlt : k < ns.length
    · obtain ⟨b, o, rfl, hcell⟩ := hr.at k (by simpa using hlt)
      simp only [List.getElem_map] at hcell
      have hcw := (hb.cell (p := ⟨b, o + k, none⟩) (lt_of_cell hcell)).trans hcell
      have hts := hid (all_take_succ ns k hlt)
      have het := hid (encAll_take ns k hlt)
      have hfl : Hid (isNum ns[k] = false → ns.all isNum = false) := fun h => all_false hlt h
      have hlen := encAll_length _ hall.out
      have htk : (ns.take k).length = k := List.length_take_of_le hk
      rw [htk] at hlen
      clear htk
      clear hown hb hcell hr
      generalize ns[k] = n at hcw hts het hfl
      by_cases hn : isNum n = true
      rotate_left
      · have HN := hid (show isNum n = false by simpa using hn)
        have HF := hid (hfl.out HN.out)
        clear hn hfl
        go_wp2_with (go_at_call 36; refine (wire_right _ _).mono ?_; rintro e w' ⟨rfl, rfl⟩; rw [HN.out])
        go_ret2
        exact ⟨_, by unfold numbersErr; rw [HF.out]; rfl, by unfold numbersBytes; rw [HF.out]; exact World.ownsRow_nil _ _ _ _, HB.out⟩
      · have HN := hid hn
        obtain ⟨m, rfl⟩ : ∃ m : Nat, n = m := ⟨n.toNat, by have := (isNum_iff n).1 hn; omega⟩
        have hmm : m < 2 ^ 62 := by have := (isNum_iff _).1 hn; omega
        have hml := enc_length9 (n := m) (by omega)
        have HM := hid hmm
        simp only [Int.toNat_natCast] at het
        clear hn hmm
        go_wp2_with (first
          | (go_at_call 36; refine (wire_right _ _).mono ?_; rintro e w' ⟨rfl, rfl⟩; rw [HN.out])
          | (go_at_call 37; refine (wire_put _ _ m w.heap.size _ HO.out hbs (by have := HM.out; omega) (by omega)).mono ?_; rintro e w1 ⟨v1, rfl, ho1, hb1⟩; refine Stop.mk ?_))
        have HO1 := hid ho1
        have HB1 := hid (HB.out.trans hb1)
        clear ho1 hb1 HO HB hbs hcw
        refine Stop.go ?_
        go_wp2
        go_roundw
        case rel => exact ⟨k + 1, by go_num, by omega, by rw [hts.out, hall.out, HN.out]; rfl, by rw [het.out]; exact HO1.out, HB1.out⟩
        case measure => simp [intOf]; omega
    · obtain rfl : k = ns.length := by omega
      rw [List.take_length] at HO hall
      clear hown hb hr
      go_wp2
      go_ret2
      exact ⟨u4, by unfold numbersErr; rw [hall.out]; rfl, by unfold numbersBytes; rw [hall.out]; exact HO.out, HB.out⟩

theorem numbers_one {N : Nat} (h : N < 4611686018427387904) : numbersErr [(N : Int)] = 0 ∧ numbersBytes [(N : Int)] = enc N := by
  have hi : isNum (N : Int) = true := by rw [isNum_iff]; omega
  unfold numbersErr numbersBytes encAll
  simp [hi]
end Go.Proofs.YtimickmlmlihpaaDoor
