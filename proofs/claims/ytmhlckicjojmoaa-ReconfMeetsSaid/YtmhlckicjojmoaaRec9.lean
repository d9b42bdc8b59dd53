/-
  Others, Stays.
-/
import Derived.Test.YtmhlckicjojmoaaRec8
namespace Go.Proofs.Ytmhlckicjojmoaa
open Go.RowKit
set_option maxRecDepth 20000
set_option linter.unusedVariables false

theorem own_obj {w : World} {base : Nat} {v : Value} {l : List Int} (h : w.ownsRow base 3 1 v l.length (l.map (Value.int .i64))) (hl : 0 < l.length) :
    ∃ g cap cur, v = .slice (some ⟨g, 0, none⟩) l.length cap ∧ ObjAt w g 3 cur ∧ base ≤ g ∧ l.length ≤ cur.size ∧ (∀ (m : Nat) (hm : m < l.length), cur[m]? = some (.int .i64 l[m])) ∧ l.length ≤ cap ∧ cap ≤ maxLen := by
  rcases h.2 with ⟨rfl, h0⟩ | ⟨g, cap, cur, rfl, hb, hg, hn, hm, hs, ht⟩
  · omega
  · have hlen : l.length ≤ cur.size := by
      have := congrArg List.length ht
      simp at this
      omega
    refine ⟨g, cap, cur, rfl, hg, hb, hlen, fun m hm => ?_, hn, hm⟩
    have := congrArg (fun x => x[m]?) ht
    simp only [List.getElem?_take, List.getElem?_map, List.getElem?_eq_getElem hm, Option.map_some] at this
    rw [if_pos (by omega)] at this
    simpa using this

theorem oth_pred (mb : Nat) (me x : Int) (w : World) (h : w.cell? ⟨mb, 0, none⟩ = some (.int .i64 me)) :
    Calls Try.prog 32 #[.int .i64 x, .pointer (some ⟨mb, 0, none⟩)] w fun e w' => e = .returned (.bool (x == me)) ∧ w = w' := by
  go_enter Try.func32, Try.ntmps32
  go_wp2_with fail
  go_ret
  exact ⟨rfl, rfl⟩
theorem sty_pred (mb fb : Nat) (fl : List Int) (fn x : Int) (w : World) (h : w.cell? ⟨mb, 0, none⟩ = some (.pointer (some ⟨fb, 0, none⟩))) (hf : EpAt w fb fl fn) (hm : fl.length ≤ 1000) :
    Calls Try.prog 33 #[.int .i64 x, .pointer (some ⟨mb, 0, none⟩)] w fun e w' => e = .returned (.bool (!placeB fl x)) ∧ w = w' := by
  obtain ⟨v, ho, hv⟩ := hf
  obtain ⟨a, c, rfl, hr, -⟩ := hv
  have c0 := ObjAt.cell ho 0 (.slice a fl.length c) rfl
  have HR := hid hr
  clear ho hr
  go_enter Try.func33, Try.ntmps33
  go_wp2_with fail
  have hct : Calls Try.prog 34 #[.slice a fl.length c, .int .i64 x] w fun e w' => e = .returned (.bool (placeB fl x)) ∧ w = w' := mem_contains a c fl x w HR.out (by omega)
  refine hct.mono ?_
  rintro e w1 ⟨rfl, rfl⟩
  clear hct c0
  go_wp2_with fail
  go_ret
  exact ⟨rfl, rfl⟩

theorem mem_members (a : Option Addr) (c : Nat) (l : List Int) (w : World) (hr : RowAt w a (l.map (Value.int .i64))) (h0 : a = none → c = 0) (hm : l.length ≤ 1000) :
    Calls Try.prog 17 #[.slice a l.length c] w fun e w' => ∃ v, e = .returned v ∧ w'.ownsRow w.heap.size 3 1 v l.length (l.map (Value.int .i64)) ∧ Below w.heap.size w w' := by
  go_enter Try.func17, Try.ntmps17
  go_wp2_with fail
  refine (clone_mem a c l w hr h0 (by omega)).mono ?_
  rintro e w1 ⟨v, rfl, ho, hb⟩
  have HO := hid ho
  have HB := hid hb
  clear ho hb hr
  go_wp2_with fail
  go_ret
  exact ⟨_, rfl, HO.out, HB.out⟩

set_option maxHeartbeats 1000000 in
theorem mem_others (a : Option Addr) (c : Nat) (l : List Int) (me : Int) (w : World) (hr : RowAt w a (l.map (Value.int .i64))) (h0 : a = none → c = 0) (hl : RightM l) :
    Calls Try.prog 18 #[.slice a l.length c, .int .i64 me] w fun e w' => ∃ v, e = .returned v ∧ IsInts w' v (l.filter fun x => !(x == me)) ∧ Below w.heap.size w w' := by
  have HR := hid hr
  have hl1 := hl.2.1
  have hl7 := hl.2.2
  clear hr hl
  go_enter Try.func18, Try.ntmps18
  go_wp2_with fail
  have HK := hid (ObjAt.new w 3 #[.int .i64 me])
  have HB := hid (below_new (w := w) (.cells #[.int .i64 me] 3))
  have HR1 := hid (HR.out.below HB.out)
  clear HR
  refine (mem_members a c l _ HR1.out h0 (by omega)).mono ?_
  rintro e w1 ⟨v, rfl, ho, hb⟩
  have HK1 := hid (HK.out.below hb)
  have HB1 := hid (below_step HB.out HB.out.size hb)
  obtain ⟨g, cap, cur, rfl, q1, q2, q3, q4, q5, q6⟩ := own_obj ho hl1
  have HQ1 := hid q1
  have HQ4 := hid q4
  have hmb : w.heap.size < g := by simp at q2; omega
  clear HK HB HR1 hb ho q1 q4 q2
  generalize hn : w.heap.size = mb at *
  go_wp2_with fail
  refine (del_funcO (.pointer (some ⟨mb, 0, none⟩)) (fun x => x == me) g cap l w1 cur HQ1.out q3 HQ4.out (by omega) ⟨q5, q6⟩ (fun x w' hb => oth_pred mb me x w' ((hb.cell (p := ⟨mb, 0, none⟩) hmb).trans (HK1.out.cell 0 _ rfl)))).mono ?_
  rintro e w2 ⟨v, rfl, hv, hb2⟩
  have HV := hid hv
  have HB2 := hid (HB1.out.trans (hb2.mono (by omega)))
  clear hv hb2 HB1
  go_wp2_with fail
  go_ret
  exact ⟨_, rfl, HV.out, by rw [hn]; exact HB2.out⟩

set_option maxHeartbeats 1000000 in
theorem ep_stays (eb fb : Nat) (l fl : List Int) (n fn : Int) (w : World) (he : EpAt w eb l n) (hf : EpAt w fb fl fn) (hl : RightM l) (hm : fl.length ≤ 1000) :
    Calls Try.prog 22 #[.pointer (some ⟨eb, 0, none⟩), .pointer (some ⟨fb, 0, none⟩)] w fun e w' => ∃ v, e = .returned v ∧ IsInts w' v (l.filter fun x => !(!placeB fl x)) ∧ Below w.heap.size w w' := by
  have HE := hid he
  have HF := hid hf
  have hl1 := hl.2.1
  have hl7 := hl.2.2
  clear he hf hl
  go_enter Try.func22, Try.ntmps22
  have HK := hid (ObjAt.new w 26 #[.pointer (some ⟨fb, 0, none⟩)])
  have HB := hid (below_new (w := w) (.cells #[.pointer (some ⟨fb, 0, none⟩)] 26))
  have HE1 := hid (HE.out.below HB.out)
  have HF1 := hid (HF.out.below HB.out)
  clear HE HF
  obtain ⟨ve, hoe, hve⟩ := HE1.out
  obtain ⟨a, c, rfl, hra, h0, -⟩ := hve
  have HRA := hid hra
  have c0 := ObjAt.cell hoe 0 (.slice a l.length c) rfl
  clear hoe hra HE1
  go_wp2_with fail
  refine (mem_members a c l _ HRA.out h0 (by omega)).mono ?_
  rintro e w1 ⟨v, rfl, ho, hb⟩
  have HK1 := hid (HK.out.below hb)
  have HF2 := hid (HF1.out.below hb)
  have HB1 := hid (below_step HB.out HB.out.size hb)
  obtain ⟨g, cap, cur, rfl, q1, q2, q3, q4, q5, q6⟩ := own_obj ho hl1
  have HQ1 := hid q1
  have HQ4 := hid q4
  have hmb : w.heap.size < g := by simp at q2; omega
  have HG : Hid (∀ w', Below g w1 w' → EpAt w' fb fl fn) := fun w' hb' => by
    obtain ⟨v, h1, h2⟩ := HF1.out
    have hbb : Below (w.alloc (.cells #[.pointer (some ⟨fb, 0, none⟩)] 26)).heap.size (w.alloc (.cells #[.pointer (some ⟨fb, 0, none⟩)] 26)) w' := hb.trans (hb'.mono q2)
    exact ⟨v, h1.below hbb, h2.below hbb⟩
  clear HK HB HF1 HF2 HRA hb ho q1 q4 q2 c0
  generalize hn : w.heap.size = mb at *
  go_wp2_with fail
  refine (del_funcS (.pointer (some ⟨mb, 0, none⟩)) (fun x => !placeB fl x) g cap l w1 cur HQ1.out q3 HQ4.out (by omega) ⟨q5, q6⟩ (fun x w' hb => sty_pred mb fb fl fn x w' ((hb.cell (p := ⟨mb, 0, none⟩) hmb).trans (HK1.out.cell 0 _ rfl)) (HG.out w' hb) hm)).mono ?_
  rintro e w2 ⟨v, rfl, hv, hb2⟩
  have HV := hid hv
  have HB2 := hid (HB1.out.trans (hb2.mono (by omega)))
  clear hv hb2 HB1
  go_wp2_with fail
  go_ret
  exact ⟨_, rfl, HV.out, by rw [hn]; exact HB2.out⟩
end Go.Proofs.Ytmhlckicjojmoaa
