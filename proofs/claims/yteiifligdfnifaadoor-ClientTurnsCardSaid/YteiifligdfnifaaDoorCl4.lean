/-
  A writer in the making; multi.Put of nothing; store.PutCall of an Open.
-/
import Derived.Test.YteiifligdfnifaaDoorCl3
import Derived.Test.YteiifligdfnifaaDoorWr9
namespace Go.Proofs.YteiifligdfnifaaDoor
open Go.RowKit
set_option maxRecDepth 20000
set_option linter.unusedVariables false

/-- A writer that was made in the world w0 holds s. -/
def WS (w0 w : World) (b : Nat) (s : WSt) : Prop := ∃ g, WrAt w b g (s.1.map byt) s.2 ∧ Below w0.heap.size w0 w ∧ w0.heap.size ≤ b ∧ ∀ k, g = some k → w0.heap.size ≤ k
theorem WrAt.blk {w : World} {b : Nat} {g : Option Nat} {bs : List Value} {bad : Bool} (h : WrAt w b g bs bad) : (∃ cs, ObjAt w b 130 cs) ∧ ∀ k, g = some k → ∃ cs, ObjAt w k 5 cs := by
  obtain ⟨v, lr, h1, h2, h3⟩ := h.ex
  exact ⟨⟨_, h1⟩, fun k e => own_objG h2 (h3.trans e)⟩
theorem WS.next {w0 w w' : World} {b : Nat} {s' : WSt} {g : Option Nat} (hb : Below w0.heap.size w0 w) (h0 : w0.heap.size ≤ b) (hg : ∀ k, g = some k → w0.heap.size ≤ k) (h : WrTo w b g s' w') : WS w0 w' b s' := by
  obtain ⟨g', h1, h2, h3⟩ := h
  refine ⟨g', h1, hb.trans (h2.below (fun k hk => hk.elim (fun e => by omega) (hg k)) hb.size), h0, fun k hk => ?_⟩
  rcases h3 k hk with q | q
  · exact hg k q
  · exact Nat.le_trans hb.size q
theorem WS.below {w0 w w' : World} {b : Nat} {s : WSt} (h : WS w0 w b s) (hb : Below w.heap.size w w') : WS w0 w' b s := by
  obtain ⟨g, h1, h2, h3, h4⟩ := h
  exact WS.next h2 h3 h4 ((WrTo.refl h1).below hb)
theorem WS.bel {w0 w : World} {b : Nat} {s : WSt} (h : WS w0 w b s) : Below w0.heap.size w0 w := by obtain ⟨g, h1, h2, h3, h4⟩ := h; exact h2
/-- Numbers are written. -/
theorem ws_nums {w0 w : World} {b : Nat} {s : WSt} (h : WS w0 w b s) (ns : List Int) (hm : s.1.length + 9 * ns.length ≤ 140737488355328) (a : Option Addr) (c : Nat) (hr : RowAt w a (ns.map (Value.int .i64))) (ho : ns ≠ [] → ∃ k cs, a = some ⟨k, 0, none⟩ ∧ ObjAt w k 3 cs) :
    Calls Tryd.prog 48 #[.pointer (some ⟨b, 0, none⟩), .slice a ns.length c] w fun e w' => e = .returned (.tuple #[]) ∧ WS w0 w' b (numsW s ns) ∧ (∀ k t cs, 130 ≠ t → 5 ≠ t → ObjAt w k t cs → ObjAt w' k t cs) := by
  obtain ⟨g, h1, h2, h3, h4⟩ := h
  have hbk := h1.blk
  refine (wr_nums b g s a ns c w h1 hr (fun hne ad e _ hw => ?_) hm).mono ?_
  · obtain ⟨k, cs, rfl, ho2⟩ := ho hne
    cases e
    rcases hw with e | e
    · obtain ⟨cs', hc⟩ := hbk.1
      exact hc.ne_obj ho2 (by decide) e.symm
    · obtain ⟨cs', hc⟩ := hbk.2 k e
      exact hc.ne_obj ho2 (by decide) rfl
  · rintro e w' ⟨he, hw⟩
    refine ⟨he, WS.next h2 h3 h4 hw, fun k t cs n1 n2 hk => hk.keptS hw.kept ?_⟩
    rintro (e | e)
    · obtain ⟨cs', hc⟩ := hbk.1
      exact hc.ne_obj hk n1 e.symm
    · obtain ⟨cs', hc⟩ := hbk.2 k e
      exact hc.ne_obj hk n2 rfl
theorem ws_texts {w0 w : World} {b : Nat} {s : WSt} (h : WS w0 w b s) (ss : List ByteArray) (hm : s.1.length + 9 * ss.length + (tls ss).flatten.length ≤ 140737488355328) (k0 : Nat) (c : Nat) (cs0 : Array Value) (hr : RowAt w (some ⟨k0, 0, none⟩) (ss.map Value.string)) (ho : ObjAt w k0 9 cs0) :
    Calls Tryd.prog 49 #[.pointer (some ⟨b, 0, none⟩), .slice (some ⟨k0, 0, none⟩) ss.length c] w fun e w' => e = .returned (.tuple #[]) ∧ WS w0 w' b (blobsW s (tls ss)) ∧ (∀ k t cs, 130 ≠ t → 5 ≠ t → ObjAt w k t cs → ObjAt w' k t cs) := by
  obtain ⟨g, h1, h2, h3, h4⟩ := h
  have hbk := h1.blk
  refine (wr_texts b g s (some ⟨k0, 0, none⟩) ss c w h1 hr (fun hne ad e _ hw => ?_) hm).mono ?_
  · cases e
    rcases hw with e | e
    · obtain ⟨cs', hc⟩ := hbk.1
      exact hc.ne_obj ho (by decide) e.symm
    · obtain ⟨cs', hc⟩ := hbk.2 k0 e
      exact hc.ne_obj ho (by decide) rfl
  · rintro e w' ⟨he, hw⟩
    refine ⟨he, WS.next h2 h3 h4 hw, fun k t cs n1 n2 hk => hk.keptS hw.kept ?_⟩
    rintro (e | e)
    · obtain ⟨cs', hc⟩ := hbk.1
      exact hc.ne_obj hk n1 e.symm
    · obtain ⟨cs', hc⟩ := hbk.2 k e
      exact hc.ne_obj hk n2 rfl
/-- One blob is written, whose bytes were there ahead of the writer. -/
theorem ws_blob {w0 w : World} {b : Nat} {s : WSt} (h : WS w0 w b s) (l : List UInt8) (v : Value) (hm : s.1.length + 9 + l.length ≤ 140737488355328) (k0 : Nat) (c : Nat) (cs0 : Array Value) (hr : RowAt w (some ⟨k0, 0, none⟩) [v]) (ho : ObjAt w k0 37 cs0) (hv : IsBytes w v l) (hvb : l ≠ [] → ∀ k, v.ownBlock = some k → k < w0.heap.size) :
    Calls Tryd.prog 50 #[.pointer (some ⟨b, 0, none⟩), .slice (some ⟨k0, 0, none⟩) 1 c] w fun e w' => e = .returned (.tuple #[]) ∧ WS w0 w' b (blobW s l) ∧ (∀ k t cs, 130 ≠ t → 5 ≠ t → ObjAt w k t cs → ObjAt w' k t cs) := by
  obtain ⟨g, h1, h2, h3, h4⟩ := h
  have hbk := h1.blk
  refine (wr_blobs b g s (some ⟨k0, 0, none⟩) [v] [l] c w h1 hr ⟨rfl, fun j x y hx hy => ?_⟩ (fun hne ad e _ hw => ?_) (fun j x y hx hy hne k hk hw => ?_) (by simp; omega)).mono ?_
  · cases j with
    | zero => simp at hx hy; subst hx; subst hy; exact hv
    | succ j => simp at hx
  · cases e
    rcases hw with e | e
    · obtain ⟨cs', hc⟩ := hbk.1
      exact hc.ne_obj ho (by decide) e.symm
    · obtain ⟨cs', hc⟩ := hbk.2 k0 e
      exact hc.ne_obj ho (by decide) rfl
  · cases j with
    | zero =>
      simp at hx hy; subst hx; subst hy
      have h9 := hvb hne k hk
      rcases hw with e | e
      · omega
      · have := h4 k e; omega
    | succ j => simp at hx
  · rintro e w' ⟨he, hw⟩
    refine ⟨he, WS.next h2 h3 h4 hw, fun k t cs n1 n2 hk => hk.keptS hw.kept ?_⟩
    rintro (e | e)
    · obtain ⟨cs', hc⟩ := hbk.1
      exact hc.ne_obj hk n1 e.symm
    · obtain ⟨cs', hc⟩ := hbk.2 k e
      exact hc.ne_obj hk n2 rfl
theorem ws_new (w : World) : Calls Tryd.prog 47 #[] w fun e w' => e = .returned (.pointer (some ⟨w.heap.size, 0, none⟩)) ∧ WS w w' w.heap.size ([], false) ∧ Below w.heap.size w w' :=
  (new_writer w).mono fun e w' ⟨h1, h2, h3⟩ => ⟨h1, ⟨none, h2, h3, Nat.le_refl _, fun k e => by cases e⟩, h3⟩
theorem ws_out {w0 w : World} {b : Nat} {s : WSt} (h : WS w0 w b s) (hm : s.1.length ≤ 140737488355328) : Calls Tryd.prog 51 #[.pointer (some ⟨b, 0, none⟩)] w (OutPost w s) := by
  obtain ⟨g, h1, h2, h3, h4⟩ := h
  exact wr_out b g s w h1 hm

set_option maxHeartbeats 1000000 in
theorem mu_put0 (w : World) : Calls Tryd.prog 63 #[.slice none 0 0] w fun e w' => ∃ v, e = .returned (.tuple #[v, .int .i64 0]) ∧ w'.ownsRow w.heap.size 5 1 v 1 ([0].map byt) ∧ Below w.heap.size w w' := by
  go_enter Tryd.func63, Tryd.ntmps63
  go_wp2_with fail
  refine (ws_new w).mono ?_
  rintro e1 w1 ⟨rfl, hs, hb⟩
  have HW := hid (hs.below (below_new (.cells #[.int .i64 0] 3)))
  have HN := hid (ObjAt.new w1 3 #[.int .i64 0])
  have HR : Hid (RowAt (w1.alloc (.cells #[.int .i64 0] 3)) (some ⟨w1.heap.size, 0, none⟩) (([0] : List Int).map (Value.int .i64))) := RowAt.new _ _ _ _
  generalize w.heap.size = wb at HW ⊢
  clear hs hb
  go_wp2_with fail
  refine (ws_nums HW.out [0] (by simp) _ 1 HR.out (fun _ => ⟨_, _, rfl, HN.out⟩)).mono ?_
  rintro e2 w2 ⟨rfl, hs2, -⟩
  rw [show numsW ([], false) [0] = ([0], false) from by decide +kernel] at hs2
  have HW2 := hid hs2
  clear hs2 HW HN HR
  go_wp2_with fail
  go_loop [18] (fun i => i = .int .i64 0) (fun _ => 0)
  case atStart => rfl
  case round =>
    subst hrel
    go_wp2_with fail
    refine (ws_out HW2.out (by decide +kernel)).mono ?_
    rintro e3 w3 ⟨hb3, hcase⟩
    rcases hcase with ⟨hbad, -⟩ | ⟨-, v, rfl, ho⟩
    · exact absurd hbad (by decide +kernel)
    · have HB3 := hid (HW2.out.bel.trans (hb3.mono HW2.out.bel.size))
      have HO3 := hid (owns_base ho HW2.out.bel.size)
      obtain ⟨va, vc, rfl, -, -, -⟩ := owns_row ho
      clear ho hb3
      go_wp2_with fail
      go_ret2
      exact ⟨_, rfl, HO3.out, HB3.out⟩
end Go.Proofs.YteiifligdfnifaaDoor
