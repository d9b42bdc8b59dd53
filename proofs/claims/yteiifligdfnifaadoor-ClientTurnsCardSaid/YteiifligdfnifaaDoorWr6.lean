/-
  wire.Writer: NewWriter, Nums, Blobs, Texts, Out.
-/
import Derived.Test.YteiifligdfnifaaDoorWr5
import Derived.Test.YteiifligdfnifaaDoorNum
import Derived.Test.YteiifligdfnifaaDoorWrP
import Derived.Test.YteiifligdfnifaaDoorClone
namespace Go.Proofs.YteiifligdfnifaaDoor
open Go.RowKit
set_option maxRecDepth 100000
set_option linter.unusedVariables false

/-- The writer at b holds s; since w0 its blocks alone have changed. -/
def WrTo (w0 : World) (b : Nat) (g0 : Option Nat) (s : WSt) (w : World) : Prop := ∃ g, WrAt w b g (s.1.map byt) s.2 ∧ KeptS (WB b g0) w0 w ∧ ∀ k, g = some k → g0 = some k ∨ w0.heap.size ≤ k
theorem WrTo.refl {w : World} {b : Nat} {g : Option Nat} {s : WSt} (h : WrAt w b g (s.1.map byt) s.2) : WrTo w b g s w := ⟨g, h, KeptS.refl _ _, fun k e => .inl e⟩
theorem WrTo.next {w0 w w' : World} {b : Nat} {g0 : Option Nat} {s' : WSt} (hk : KeptS (WB b g0) w0 w) {g : Option Nat} (hg : ∀ k, g = some k → g0 = some k ∨ w0.heap.size ≤ k) (h : WrTo w b g s' w') : WrTo w0 b g0 s' w' := by
  obtain ⟨g', h1, h2, h3⟩ := h
  refine ⟨g', h1, hk.trans h2 (fun i hi e => ?_), fun k e => ?_⟩
  · rcases e with e | e
    · exact .inl e
    · rcases hg i e with h | h
      · exact .inr h
      · omega
  · rcases h3 k e with h | h
    · exact hg k h
    · exact .inr (Nat.le_trans hk.size h)
theorem WrTo.of_post {w w' : World} {b : Nat} {g : Option Nat} {s : WSt} {r : Value} {e : Ending} (h : WrPost w b g (s.1.map byt) s.2 r e w') : e = .returned r ∧ WrTo w b g s w' := h
theorem WrTo.below {w0 w w' : World} {b : Nat} {g0 : Option Nat} {s : WSt} (h : WrTo w0 b g0 s w) (hb : Below w.heap.size w w') : WrTo w0 b g0 s w' := by
  obtain ⟨g, h1, h2, h3⟩ := h
  exact ⟨g, h1.below hb, h2.next (KeptS.of_below hb), h3⟩
theorem WrTo.start {w0 w : World} {b : Nat} {g : Option Nat} {s : WSt} (h : WrAt w0 b g (s.1.map byt) s.2) (hb : Below w0.heap.size w0 w) : WrTo w0 b g s w := (WrTo.refl h).below hb

theorem new_writer (w : World) : Calls Tryd.prog 47 #[] w fun e w' => e = .returned (.pointer (some ⟨w.heap.size, 0, none⟩)) ∧ WrAt w' w.heap.size none [] false ∧ Below w.heap.size w w' := by
  go_enter Tryd.func47, Tryd.ntmps47
  go_wp2
  go_ret
  exact ⟨rfl, ⟨⟨.slice none 0 0, 0, ObjAt.new w 130 _, World.ownsRow_nil _ _ _ _, rfl⟩, by simp, by simp⟩, below_new _⟩

set_option maxHeartbeats 3200000 in
theorem buf_write0 (b : Nat) (g : Option Nat) (s : WSt) (a : Option Addr) (c : Nat) (w : World) (h : WrAt w b g (s.1.map byt) s.2) :
    Calls Tryd.prog 61 #[.pointer (some ⟨b, 0, none⟩), .slice a 0 c] w fun e w' => e = .returned (.tuple #[.int .i64 0, .nilIface]) ∧ WrTo w b g s w' := by
  have hce : ∀ d dLen dCap W, (Builtin.copy_ #[37, 37] 3 #[.slice d dLen dCap, .slice a 0 c]).run Tryd.prog W = .ok (goInt 0) W := fun d dLen dCap W => run_copy_none W 37 37 3 5 d a dLen dCap 0 c Tryd.underlying37 info1 (by simp)
  have hne := h.ne
  have hfull := h.full
  obtain ⟨v, lr, ho, hw, hv⟩ := h.ex
  obtain ⟨bs, hbs⟩ : ∃ bs, bs = s.1.map byt := ⟨_, rfl⟩
  rw [← hbs] at hw hfull
  have HBS := hid hbs
  have HHW := hid hw
  have HHV := hid hv
  clear hbs h
  have hcl : ∃ ao cap, v = .slice ao bs.length cap ∧ bs.length ≤ cap ∧ cap ≤ maxLen ∧ (ao = none → cap = 0) := by
    obtain ⟨ao, cap, rfl, -, h1, h2⟩ := owns_row hw
    refine ⟨ao, cap, rfl, h1, h2, fun e => ?_⟩
    rcases hw.2 with ⟨e1, _⟩ | ⟨k, cap', cur, e1, _⟩
    · simp only [Value.slice.injEq] at e1; exact e1.2.2
    · rw [e] at e1; simp at e1
  obtain ⟨ao, cap, rfl, hlc, hcm, hz⟩ := hcl
  have c2 := ho.cell 2 _ rfl
  have f2 := ho.frozen 2
  go_enter Tryd.func61, Tryd.ntmps61
  go_wp2_with fail
  have HO := hid (ho.set 2 (.int .i8 0))
  have HK := hid (KeptS.set (S := fun q => q = b) w ⟨b, 2, none⟩ (.int .i8 0) rfl)
  clear c2 f2 ho
  generalize w.setCell ⟨b, 2, none⟩ (.int .i8 0) = W at HO HK ⊢
  refine (tryGrow_room b _ bs.length cap 0 W (HO.out.cell 0 _ rfl) (HO.out.frozen 0) hlc hcm (Nat.zero_le _)).mono ?_
  rintro e w' ⟨rfl, rfl⟩
  rw [Nat.add_zero]
  have HO2 := hid (HO.out.set 0 (.slice ao bs.length cap))
  have HK2 := hid (HK.out.next (KeptS.set (S := fun q => q = b) W ⟨b, 0, none⟩ (.slice ao bs.length cap) rfl))
  clear HO HK
  generalize W.setCell ⟨b, 0, none⟩ (.slice ao bs.length cap) = W2 at HO2 HK2 ⊢
  have HW2 : Hid (WrTo w b g s W2) :=
    ⟨g, by rw [← HBS.out]; exact ⟨⟨_, 0, HO2.out, own_keptS HHW.out HK2.out (fun k e e2 => hne (by rw [← HHV.out, e, e2])), HHV.out⟩, hne, hfull⟩, HK2.out.imp (fun k e => .inl e), fun k e => .inl e⟩
  have d0 := HO2.out.cell 0 _ rfl
  clear HO2 HK2 hw HHW HHV HBS
  unfold maxLen at hcm
  cases ao with
  | none =>
    obtain rfl := hz rfl
    have hb0 : bs.length = 0 := by omega
    go_wp2
    go_ret2
    exact ⟨rfl, HW2.out⟩
  | some ad =>
    by_cases hcl : cap = bs.length
    · go_wp2
      go_ret2
      exact ⟨rfl, HW2.out⟩
    · go_wp2
      go_ret2
      exact ⟨rfl, HW2.out⟩
end Go.Proofs.YteiifligdfnifaaDoor
