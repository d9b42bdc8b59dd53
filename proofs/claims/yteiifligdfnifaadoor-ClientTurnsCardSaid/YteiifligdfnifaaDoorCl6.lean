/-
  The bytes of an Open; store.GetCall of them.
-/
import Derived.Test.YteiifligdfnifaaDoorCl5
import Derived.Test.YteiifligdfnifaaDoorRd2
import Derived.Laws.ResultCell
import Derived.Laws.Rows
import Derived.Laws.Tables
import Derived.Laws.CopyOwn
import Derived.Deep.MidRow
namespace Go.Proofs.YteiifligdfnifaaDoor
open Go.RowKit
set_option maxRecDepth 20000
set_option linter.unusedVariables false

def openB (h : List UInt8) (n l : Nat) : List UInt8 :=
  enc 1 ++ (enc h.length ++ (h ++ (enc 0 ++ (enc 0 ++ (enc n ++ (enc l ++ (enc 0 ++ (enc 0 ++ (enc 1 ++ ([0] ++ (enc 0 ++ ([] ++ (enc 0 ++ (enc 0 ++ (enc 0 ++ [])))))))))))))))
theorem oS6_is (h : ByteArray) (n l : Nat) (hn : n ≤ 4611686018427387903) (hl : l ≤ 4611686018427387903) : oS6 h n l = (openB h.data.toList n l, false) := by
  have e1 : isNum (n : Int) = true := by unfold isNum; exact decide_eq_true (by omega)
  have e2 : isNum (l : Int) = true := by unfold isNum; exact decide_eq_true (by omega)
  have e0 : isNum 0 = true := by decide
  have e3 : isNum 1 = true := by decide
  have hz : tls [(⟨#[]⟩ : ByteArray)] = [[]] := rfl
  have hh : tls [h] = [h.data.toList] := rfl
  unfold oS6 oS5 oS4 oS3 oS2 oS1 openB
  rw [hz, hh]
  simp [numsW, blobsW, numW, blobW, e0, e1, e2, e3]

/-- A reader that was made in the world w0. -/
def RS (w0 w : World) (rb : Nat) (s : RSt) : Prop := RdAt w rb s ∧ Below w0.heap.size w0 w ∧ w0.heap.size ≤ rb
def KeepR (w w' : World) : Prop := ∀ k t cs, 118 ≠ t → ObjAt w k t cs → ObjAt w' k t cs
theorem RS.next {w0 w w' : World} {rb : Nat} {s s' : RSt} (h : RS w0 w rb s) (hr : RdAt w' rb s') (hk : Kept w.heap.size rb w w') : RS w0 w' rb s' ∧ KeepR w w' := by
  obtain ⟨h1, h2, h3⟩ := h
  refine ⟨⟨hr, below_kept h2 hk h3 h2.size, h3⟩, fun k t cs n ho => ho.kept hk (fun e => ?_)⟩
  obtain ⟨v, ho2, -⟩ := h1
  exact ho2.ne_obj ho n e.symm
theorem RdAt.below' {w w' : World} {r : Nat} {s : RSt} (h : RdAt w r s) (hb : Below w.heap.size w w') : RdAt w' r s := by
  obtain ⟨v, h1, h2, h3⟩ := h
  exact ⟨v, h1.below hb, h2.below hb, h3⟩
theorem RS.below {w0 w w' : World} {rb : Nat} {s : RSt} (h : RS w0 w rb s) (hb : Below w.heap.size w w') : RS w0 w' rb s := ⟨h.1.below' hb, h.2.1.trans (hb.mono h.2.1.size), h.2.2⟩
theorem rs_num {w0 w : World} {rb : Nat} {n : Nat} {rest : List UInt8} (h : RS w0 w rb (enc n ++ rest, 0)) (hn : n < 4611686018427387904) : Calls Tryd.prog 39 #[.pointer (some ⟨rb, 0, none⟩)] w fun e w' => e = .returned (.int .i64 (n : Int)) ∧ RS w0 w' rb (rest, 0) ∧ KeepR w w' := by
  refine (rd_num rb _ w h.1).mono ?_
  rintro e w' ⟨rfl, hr, hk⟩
  rw [rdNum_enc hn] at hr ⊢
  exact ⟨rfl, h.next hr hk⟩
theorem rs_text {w0 w : World} {rb : Nat} {l rest : List UInt8} (h : RS w0 w rb (enc l.length ++ (l ++ rest), 0)) (hn : l.length < 4611686018427387904) (hm : (enc l.length ++ (l ++ rest)).length ≤ 140737488355328) : Calls Tryd.prog 40 #[.pointer (some ⟨rb, 0, none⟩)] w fun e w' => e = .returned (.string ⟨l.toArray⟩) ∧ RS w0 w' rb (rest, 0) ∧ KeepR w w' := by
  refine (rd_text rb _ w h.1 hm).mono ?_
  rintro e w' ⟨rfl, hr, hk⟩
  rw [rdBlob_enc hn] at hr ⊢
  exact ⟨rfl, h.next hr hk⟩
theorem rs_blob {w0 w : World} {rb : Nat} {l rest : List UInt8} (h : RS w0 w rb (enc l.length ++ (l ++ rest), 0)) (hn : l.length < 4611686018427387904) (hm : (enc l.length ++ (l ++ rest)).length ≤ 140737488355328) : Calls Tryd.prog 42 #[.pointer (some ⟨rb, 0, none⟩)] w fun e w' => ∃ v, e = .returned v ∧ IsBytes w' v l ∧ RS w0 w' rb (rest, 0) ∧ KeepR w w' := by
  refine (rd_blob rb _ w h.1 hm).mono ?_
  rintro e w' ⟨v, rfl, hv, hr, hk, -⟩
  rw [rdBlob_enc hn] at hv hr
  exact ⟨v, rfl, hv, h.next hr hk⟩
theorem rs_new (v : Value) (l : List UInt8) (w : World) (hv : IsBytes w v l) (hm : l.length ≤ 140737488355328) : Calls Tryd.prog 38 #[v] w fun e w' => ∃ r, e = .returned (.pointer (some ⟨r, 0, none⟩)) ∧ RS w w' r (l, 0) ∧ Below w.heap.size w w' :=
  (new_reader v l w hv hm).mono fun e w' ⟨r, h1, h2, h3, h4⟩ => ⟨r, h1, ⟨h2, h3, h4⟩, h3⟩

set_option maxHeartbeats 1000000 in
theorem mu_get0 (v : Value) (w : World) (hv : IsBytes w v [0]) : Calls Tryd.prog 41 #[v] w fun e w' => e = .returned (.tuple #[.slice none 0 0, .int .i64 0]) ∧ Below w.heap.size w w' := by
  have HV := hid hv
  obtain ⟨va, vc, rfl, -⟩ := hv
  go_enter Tryd.func41, Tryd.ntmps41
  go_wp2_with fail
  refine (rs_new _ [0] w HV.out (by decide)).mono ?_
  rintro e1 w1 ⟨rb, rfl, hr, -⟩
  have HR : Hid (RS w w1 rb (enc 0 ++ [], 0)) := by
    show RS _ _ _ _
    rw [show enc 0 ++ [] = [0] from by decide +kernel]
    exact hr
  clear hr
  go_wp2_with fail
  refine (rs_num HR.out (by decide)).mono ?_
  rintro e2 w2 ⟨rfl, hr, -⟩
  have HR2 := hid hr
  clear hr HR
  go_wp2_with fail
  go_loop [6, 16] (fun a i => a = .slice none 0 0 ∧ i = .int .i64 0) (fun _ _ => 0)
  case atStart => exact ⟨rfl, rfl⟩
  case round =>
    obtain ⟨rfl, rfl⟩ := hrel
    go_wp2_with fail
    refine (rd_err rb _ _ HR2.out.1).mono ?_
    rintro e3 w3 ⟨rfl, rfl⟩
    go_wp2_with fail
    refine (rd_left rb _ _ HR2.out.1).mono ?_
    rintro e4 w4 ⟨rfl, rfl⟩
    go_wp2_with fail
    go_ret2
    exact ⟨rfl, HR2.out.2.1⟩
set_option maxHeartbeats 1000000 in
theorem st_members0 {w0 : World} (rb : Nat) (rest : List UInt8) (w : World) (h : RS w0 w rb (enc 0 ++ rest, 0)) : Calls Tryd.prog 43 #[.pointer (some ⟨rb, 0, none⟩)] w fun e w' => e = .returned (.slice none 0 0) ∧ RS w0 w' rb (rest, 0) ∧ KeepR w w' := by
  have HR := hid h
  clear h
  go_enter Tryd.func43, Tryd.ntmps43
  go_wp2_with fail
  refine (rs_num HR.out (by decide)).mono ?_
  rintro e2 w2 ⟨rfl, hr, hk⟩
  have HR2 := hid hr
  have HK := hid hk
  clear hr HR hk
  go_wp2_with fail
  go_loop [3, 7] (fun a i => a = .slice none 0 0 ∧ i = .int .i64 0) (fun _ _ => 0)
  case atStart => exact ⟨rfl, rfl⟩
  case round =>
    obtain ⟨rfl, rfl⟩ := hrel
    go_wp2_with fail
    go_ret
    exact ⟨rfl, HR2.out, HK.out⟩

theorem results_cell2 {P : Program} {fn : Func} {p u : Tmp} {ty : TypeId} (h : fn.results = #[.cell p ty, .tmp u]) (tmps : Array Value) (w : World) (g : Nat) (t : TypeId) (cs : Array Value) (fs : Array Field)
    (hp : tmps.getD p undef = .pointer (some ⟨g, 0, none⟩)) (hg : ObjAt w g t cs) (hu : P.underlying ty = some (.struct fs)) (hi : (P.info? ty).map (·.size) = some cs.size) :
    (results fn tmps).run P w = .ok (.tuple #[.agg cs, tmps.getD u undef]) w := by
  rw [results_cell_tmp h, hp]
  simp [asAddr, run_loadVar_row w g t ty cs (0, 0) (.struct fs) hg hu rfl hi, Result.andThen]
theorem below_put2 {a b : World} (h : Below a.heap.size a b) (p : Addr) (v : Value) (hp : a.heap.size ≤ p.block) : Below a.heap.size a (b.setCell p v) :=
  below_kept h (Kept.set b p v) hp h.size
theorem isBytes_ne' {w : World} {v : Value} {l : List UInt8} {r : Nat} {t : TypeId} {cs : Array Value} (h : IsBytes w v l) (ho : ObjAt w r t cs) (hc : ∀ x ∈ cs.toList, ∀ z, x ≠ .int .u8 z) : l ≠ [] → ∀ k, v.ownBlock = some k → k ≠ r := by
  intro hne k hk e
  obtain ⟨a, c, rfl, hr, -⟩ := h
  obtain ⟨b, o, rfl, hcell⟩ := hr.at 0 (by simpa using List.length_pos_iff.2 hne)
  have hb : b = k := by simpa [Value.ownBlock] using hk
  subst hb; subst e
  unfold ObjAt at ho
  rw [Nat.add_zero] at hcell
  simp only [World.cell?, ho] at hcell
  have hm : (l.map byt)[0]'(by simpa using List.length_pos_iff.2 hne) ∈ cs.toList := by
    have := Array.mem_of_getElem? hcell
    simpa using this
  rw [List.getElem_map] at hm
  exact hc _ hm _ rfl
theorem RS.set {w0 w : World} {rb : Nat} {s : RSt} {c : Nat} {t : TypeId} {cs : Array Value} (h : RS w0 w rb s) (ho : ObjAt w c t cs) (ht : t ≠ 118) (hc : ∀ x ∈ cs.toList, ∀ z, x ≠ .int .u8 z) (h0 : w0.heap.size ≤ c) (i : Nat) (x : Value) : RS w0 (w.setCell ⟨c, i, none⟩ x) rb s := by
  obtain ⟨⟨v, h1, h2, h3⟩, h4, h5⟩ := h
  have hk := KeptS.set (S := fun j => j = c) w ⟨c, i, none⟩ x rfl
  exact ⟨⟨v, h1.keptS hk (fun e => ho.ne_obj h1 ht e.symm), h2.keptE hk (fun hne k hk2 e => isBytes_ne' h2 ho hc hne k hk2 e), h3⟩, h4.trans (hk.below (fun j hj => by rw [hj]; exact h0) h4.size), h5⟩

set_option maxHeartbeats 8000000 in
theorem get_open (h : List UInt8) (n l : Nat) (v : Value) (w : World) (hv : IsBytes w v (openB h n l)) (hh : h.length ≤ 32) (hn : n < 4611686018427387904) (hl : l < 4611686018427387904) (hm : (openB h n l).length ≤ 200) :
    Calls Tryd.prog 19 #[v] w fun e w' => e = .returned (.tuple #[.agg #[.int .i64 1, .string ⟨h.toArray⟩, .int .i64 0, .int .i64 0, .int .i64 (n : Int), .int .i64 (l : Int), .int .i64 0, .int .i64 0, .slice none 0 0, .string ⟨#[]⟩, .bool false, .int .i64 0, .slice none 0 0], .int .i64 0]) ∧ Below w.heap.size w w' := by
  have HV := hid (hv.below (below_new (.cells #[.int .i64 0, .string ⟨#[]⟩, .int .i64 0, .int .i64 0, .int .i64 0, .int .i64 0, .int .i64 0, .int .i64 0, .slice none 0 0, .string ⟨#[]⟩, .bool false, .int .i64 0, .slice none 0 0] 44)))
  have HZ := hid (ObjAt.new w 44 #[.int .i64 0, .string ⟨#[]⟩, .int .i64 0, .int .i64 0, .int .i64 0, .int .i64 0, .int .i64 0, .int .i64 0, .slice none 0 0, .string ⟨#[]⟩, .bool false, .int .i64 0, .slice none 0 0])
  have HBZ := hid (below_new (w := w) (.cells #[.int .i64 0, .string ⟨#[]⟩, .int .i64 0, .int .i64 0, .int .i64 0, .int .i64 0, .int .i64 0, .int .i64 0, .slice none 0 0, .string ⟨#[]⟩, .bool false, .int .i64 0, .slice none 0 0] 44))
  obtain ⟨va, vc, rfl, -⟩ := hv
  have HM := hid hm
  clear hm
  go_enter Tryd.func19, Tryd.ntmps19
  go_wp2_with fail
  refine (rs_new _ (openB h n l) _ HV.out (by have := HM.out; omega)).mono ?_
  rintro e1 w1 ⟨rb, rfl, hr, hb1⟩
  have HR1 := hid hr
  have HZ1 := hid (HZ.out.below hb1)
  change Hid (ObjAt w1 w.heap.size _ _) at HZ1
  have HS0 : Hid (w.heap.size ≤ (w.alloc (.cells #[.int .i64 0, .string ⟨#[]⟩, .int .i64 0, .int .i64 0, .int .i64 0, .int .i64 0, .int .i64 0, .int .i64 0, .slice none 0 0, .string ⟨#[]⟩, .bool false, .int .i64 0, .slice none 0 0] 44)).heap.size) := HBZ.out.size
  generalize hzb : w.heap.size = zb at HZ1 ⊢
  have HZB := hid hzb
  have HZB2 : Hid (w.heap.size ≤ zb) := Nat.le_of_eq hzb
  generalize hW0 : w.alloc (.cells #[.int .i64 0, .string ⟨#[]⟩, .int .i64 0, .int .i64 0, .int .i64 0, .int .i64 0, .int .i64 0, .int .i64 0, .slice none 0 0, .string ⟨#[]⟩, .bool false, .int .i64 0, .slice none 0 0] 44) = W0 at *
  clear hzb hr hb1 hW0 HZ HV
  go_wp2_with fail
  refine (rs_num (n := 1) HR1.out (by decide)).mono ?_
  rintro e2 w2 ⟨rfl, hr, hk⟩
  have HR2 := hid hr
  have HZ2 := hid (hk _ _ _ (by decide) HZ1.out)
  clear hr hk HR1 HZ1
  go_wp2_with fail
  refine (rs_text (l := h) HR2.out (by omega) (by have h9 := HM.out; unfold openB at h9; simp only [List.length_append, List.length_cons, List.length_nil, Nat.zero_add] at h9 ⊢; omega)).mono ?_
  rintro e3 w3 ⟨rfl, hr, hk⟩
  have HR3 := hid hr
  have HZ3 := hid (hk _ _ _ (by decide) HZ2.out)
  clear hr hk HR2 HZ2
  go_wp2_with fail
  refine (rs_num (n := 0) HR3.out (by decide)).mono ?_
  rintro e4 w4 ⟨rfl, hr, hk⟩
  have HR4 := hid hr
  have HZ4 := hid (hk _ _ _ (by decide) HZ3.out)
  clear hr hk HR3 HZ3
  go_wp2_with fail
  refine (rs_num (n := 0) HR4.out (by decide)).mono ?_
  rintro e5 w5 ⟨rfl, hr, hk⟩
  have HR5 := hid hr
  have HZ5 := hid (hk _ _ _ (by decide) HZ4.out)
  clear hr hk HR4 HZ4
  go_wp2_with fail
  refine (rs_num (n := n) HR5.out hn).mono ?_
  rintro e6 w6 ⟨rfl, hr, hk⟩
  have HR6 := hid hr
  have HZ6 := hid (hk _ _ _ (by decide) HZ5.out)
  clear hr hk HR5 HZ5
  go_wp2_with fail
  refine (rs_num (n := l) HR6.out hl).mono ?_
  rintro e7 w7 ⟨rfl, hr, hk⟩
  have HR7 := hid hr
  have HZ7 := hid (hk _ _ _ (by decide) HZ6.out)
  clear hr hk HR6 HZ6
  go_wp2_with fail
  refine (rs_num (n := 0) HR7.out (by decide)).mono ?_
  rintro e8 w8 ⟨rfl, hr, hk⟩
  have HR8 := hid hr
  have HZ8 := hid (hk _ _ _ (by decide) HZ7.out)
  clear hr hk HR7 HZ7
  go_wp2_with fail
  refine (rs_num (n := 0) HR8.out (by decide)).mono ?_
  rintro e9 w9 ⟨rfl, hr, hk⟩
  have HR9 := hid hr
  have HZ9 := hid (hk _ _ _ (by decide) HZ8.out)
  clear hr hk HR8 HZ8
  have HC := hid (ObjAt.new w9 44 #[.int .i64 1, .string ⟨h.toArray⟩, .int .i64 0, .int .i64 0, .int .i64 (n : Int), .int .i64 (l : Int), .int .i64 0, .int .i64 0, .slice none 0 0, .string ⟨#[]⟩, .bool false, .int .i64 0, .slice none 0 0])
  have HBC := hid (below_new (w := w9) (.cells #[.int .i64 1, .string ⟨h.toArray⟩, .int .i64 0, .int .i64 0, .int .i64 (n : Int), .int .i64 (l : Int), .int .i64 0, .int .i64 0, .slice none 0 0, .string ⟨#[]⟩, .bool false, .int .i64 0, .slice none 0 0] 44))
  have HRa := hid (HR9.out.below HBC.out)
  have HZa := hid (HZ9.out.below HBC.out)
  have hzl := HZ9.out.lt
  have HRs : Hid (W0.heap.size ≤ w9.heap.size) := HR9.out.2.1.size
  clear HR9 HZ9 HBC
  go_wp2_with fail
  have HCB0 : Hid (W0.heap.size ≤ w9.heap.size) := HRs.out
  generalize w9.heap.size = cb at HC hzl HCB0 ⊢
  have hne : zb ≠ cb := by omega
  have hne' : cb ≠ zb := by omega
  clear hzl
  generalize w9.alloc (.cells #[.int .i64 1, .string ⟨h.toArray⟩, .int .i64 0, .int .i64 0, .int .i64 (n : Int), .int .i64 (l : Int), .int .i64 0, .int .i64 0, .slice none 0 0, .string ⟨#[]⟩, .bool false, .int .i64 0, .slice none 0 0] 44) = wa at *
  refine (rs_blob (l := [0]) HRa.out (by decide) (by have h9 := HM.out; unfold openB at h9; simp only [List.length_append, List.length_cons, List.length_nil, Nat.zero_add] at h9 ⊢; omega)).mono ?_
  rintro ea w10 ⟨vo, rfl, hvo, hr, hk⟩
  have HRb := hid hr
  have HZb := hid (hk _ _ _ (by decide) HZa.out)
  have HCb := hid (hk _ _ _ (by decide) HC.out)
  obtain ⟨vao, vco, rfl, -⟩ := id hvo
  have HVO := hid hvo
  clear hr hk hvo HRa HZa HC
  go_wp2_with fail
  refine (mu_get0 _ _ HVO.out).mono ?_
  rintro ec w11 ⟨rfl, hb11⟩
  have HRc := hid (HRb.out.below hb11)
  have HZc := hid (HZb.out.below hb11)
  have HCc := hid (HCb.out.below hb11)
  clear hb11 HVO HRb HZb HCb
  go_wp2_with fail
  refine (rs_text (l := []) HRc.out (by decide) (by have h9 := HM.out; unfold openB at h9; simp only [List.length_append, List.length_cons, List.length_nil, Nat.zero_add] at h9 ⊢; omega)).mono ?_
  rintro ed w12 ⟨rfl, hr, hk⟩
  have HRd := hid hr
  have HZd := hid (hk _ _ _ (by decide) HZc.out)
  have HCd := hid (hk _ _ _ (by decide) HCc.out)
  clear hr hk HRc HZc HCc
  have c8 := HCd.out.cell 8 (.slice none 0 0) rfl
  have c9 := HCd.out.cell 9 (.string ⟨#[]⟩) rfl
  have f8 := HCd.out.frozen 8
  have f9 := HCd.out.frozen 9
  have HNU : Hid (∀ x ∈ (#[.int .i64 1, .string ⟨h.toArray⟩, .int .i64 0, .int .i64 0, .int .i64 (n : Int), .int .i64 (l : Int), .int .i64 0, .int .i64 0, .slice none 0 0, .string ⟨#[]⟩, .bool false, .int .i64 0, .slice none 0 0] : Array Value).toList, ∀ z, x ≠ .int .u8 z) := by
    show ∀ x ∈ _, ∀ z, _
    intro x hx z e
    subst e
    simp at hx
  have hcb0 := HCB0.out
  have hk8 := KeptS.set (S := fun j => j = cb) w12 ⟨cb, 8, none⟩ (.slice none 0 0) rfl
  have HRe := hid (HRd.out.set HCd.out (by decide) HNU.out hcb0 8 (.slice none 0 0))
  have HCe : Hid (ObjAt (w12.setCell ⟨cb, 8, none⟩ (.slice none 0 0)) cb 44 #[.int .i64 1, .string ⟨h.toArray⟩, .int .i64 0, .int .i64 0, .int .i64 (n : Int), .int .i64 (l : Int), .int .i64 0, .int .i64 0, .slice none 0 0, .string ⟨#[]⟩, .bool false, .int .i64 0, .slice none 0 0]) := hid (HCd.out.set 8 (.slice none 0 0))
  have HZe := hid (HZd.out.keptS hk8 hne)
  have hk9 := KeptS.set (S := fun j => j = cb) (w12.setCell ⟨cb, 8, none⟩ (.slice none 0 0)) ⟨cb, 9, none⟩ (.string ⟨#[]⟩) rfl
  have HRf := hid (HRe.out.set HCe.out (by decide) HNU.out hcb0 9 (.string ⟨#[]⟩))
  have HCf : Hid (ObjAt ((w12.setCell ⟨cb, 8, none⟩ (.slice none 0 0)).setCell ⟨cb, 9, none⟩ (.string ⟨#[]⟩)) cb 44 #[.int .i64 1, .string ⟨h.toArray⟩, .int .i64 0, .int .i64 0, .int .i64 (n : Int), .int .i64 (l : Int), .int .i64 0, .int .i64 0, .slice none 0 0, .string ⟨#[]⟩, .bool false, .int .i64 0, .slice none 0 0]) := hid (HCe.out.set 9 (.string ⟨#[]⟩))
  have HZf := hid (HZe.out.keptS hk9 hne)
  clear hk8 hk9 HRe HCe HZe HRd HCd HZd
  go_wp2_with fail
  clear c8 c9 f8 f9
  generalize (w12.setCell ⟨cb, 8, none⟩ (.slice none 0 0)).setCell ⟨cb, 9, none⟩ (.string ⟨#[]⟩) = w13 at *
  refine (rs_num (n := 0) HRf.out (by decide)).mono ?_
  rintro eg w14 ⟨rfl, hr, hk⟩
  have HRg := hid hr
  have HZg := hid (hk _ _ _ (by decide) HZf.out)
  have HCg := hid (hk _ _ _ (by decide) HCf.out)
  clear hr hk HRf HZf HCf
  go_wp2_with fail
  refine (rs_num (n := 0) HRg.out (by decide)).mono ?_
  rintro eh w15 ⟨rfl, hr, hk⟩
  have HRh := hid hr
  have HZh := hid (hk _ _ _ (by decide) HZg.out)
  have HCh := hid (hk _ _ _ (by decide) HCg.out)
  clear hr hk HRg HZg HCg
  go_wp2_with fail
  refine (st_members0 rb [] _ HRh.out).mono ?_
  rintro ei w16 ⟨rfl, hr, hk⟩
  have HRi := hid hr
  have HZi := hid (hk _ _ _ (by decide) HZh.out)
  have HCi := hid (hk _ _ _ (by decide) HCh.out)
  clear hr hk HRh HZh HCh
  have c10 := HCi.out.cell 10 (.bool false) rfl
  have c11 := HCi.out.cell 11 (.int .i64 0) rfl
  have c12 := HCi.out.cell 12 (.slice none 0 0) rfl
  have f10 := HCi.out.frozen 10
  have f11 := HCi.out.frozen 11
  have f12 := HCi.out.frozen 12
  have HRj := hid (HRi.out.set HCi.out (by decide) HNU.out hcb0 10 (.bool false))
  have HCj : Hid (ObjAt (w16.setCell ⟨cb, 10, none⟩ (.bool false)) cb 44 #[.int .i64 1, .string ⟨h.toArray⟩, .int .i64 0, .int .i64 0, .int .i64 (n : Int), .int .i64 (l : Int), .int .i64 0, .int .i64 0, .slice none 0 0, .string ⟨#[]⟩, .bool false, .int .i64 0, .slice none 0 0]) := hid (HCi.out.set 10 (.bool false))
  have HZj := hid (HZi.out.keptS (KeptS.set (S := fun j => j = cb) w16 ⟨cb, 10, none⟩ (.bool false) rfl) hne)
  have HRk := hid (HRj.out.set HCj.out (by decide) HNU.out hcb0 11 (.int .i64 0))
  have HCk : Hid (ObjAt ((w16.setCell ⟨cb, 10, none⟩ (.bool false)).setCell ⟨cb, 11, none⟩ (.int .i64 0)) cb 44 #[.int .i64 1, .string ⟨h.toArray⟩, .int .i64 0, .int .i64 0, .int .i64 (n : Int), .int .i64 (l : Int), .int .i64 0, .int .i64 0, .slice none 0 0, .string ⟨#[]⟩, .bool false, .int .i64 0, .slice none 0 0]) := hid (HCj.out.set 11 (.int .i64 0))
  have HZk := hid (HZj.out.keptS (KeptS.set (S := fun j => j = cb) _ ⟨cb, 11, none⟩ (.int .i64 0) rfl) hne)
  have HRl := hid (HRk.out.set HCk.out (by decide) HNU.out hcb0 12 (.slice none 0 0))
  have HCl : Hid (ObjAt (((w16.setCell ⟨cb, 10, none⟩ (.bool false)).setCell ⟨cb, 11, none⟩ (.int .i64 0)).setCell ⟨cb, 12, none⟩ (.slice none 0 0)) cb 44 #[.int .i64 1, .string ⟨h.toArray⟩, .int .i64 0, .int .i64 0, .int .i64 (n : Int), .int .i64 (l : Int), .int .i64 0, .int .i64 0, .slice none 0 0, .string ⟨#[]⟩, .bool false, .int .i64 0, .slice none 0 0]) := hid (HCk.out.set 12 (.slice none 0 0))
  have HZl := hid (HZk.out.keptS (KeptS.set (S := fun j => j = cb) _ ⟨cb, 12, none⟩ (.slice none 0 0) rfl) hne)
  clear HRi HCi HZi HRj HCj HZj HRk HCk HZk
  go_wp2_with fail
  clear c10 c11 c12 f10 f11 f12
  generalize ((w16.setCell ⟨cb, 10, none⟩ (.bool false)).setCell ⟨cb, 11, none⟩ (.int .i64 0)).setCell ⟨cb, 12, none⟩ (.slice none 0 0) = w17 at *
  refine (rd_err rb _ _ HRl.out.1).mono ?_
  rintro ej wj ⟨rfl, rfl⟩
  go_wp2_with fail
  refine (rd_left rb _ _ HRl.out.1).mono ?_
  rintro ek wk ⟨rfl, rfl⟩
  have c12 := HCl.out.cell 12 (.slice none 0 0) rfl
  have hlen := HM.out
  go_wp2_with (first
    | (refine wpList_load_row rfl 44 _ rfl cb rfl _ _ (0, 0) _ HCl.out Tryd.underlying44 rfl (by kernel_rfl) ?_)
    | (refine wpList_store_row rfl 44 _ _ rfl zb #[.int .i64 1, .string ⟨h.toArray⟩, .int .i64 0, .int .i64 0, .int .i64 (n : Int), .int .i64 (l : Int), .int .i64 0, .int .i64 0, .slice none 0 0, .string ⟨#[]⟩, .bool false, .int .i64 0, .slice none 0 0] rfl rfl _ _ HZl.out (by kernel_rfl) rfl (by kernel_rfl) ?_))
  have HZz : Hid (ObjAt (w17.setRow zb #[.int .i64 1, .string ⟨h.toArray⟩, .int .i64 0, .int .i64 0, .int .i64 (n : Int), .int .i64 (l : Int), .int .i64 0, .int .i64 0, .slice none 0 0, .string ⟨#[]⟩, .bool false, .int .i64 0, .slice none 0 0]) zb 44 #[.int .i64 1, .string ⟨h.toArray⟩, .int .i64 0, .int .i64 0, .int .i64 (n : Int), .int .i64 (l : Int), .int .i64 0, .int .i64 0, .slice none 0 0, .string ⟨#[]⟩, .bool false, .int .i64 0, .slice none 0 0]) := hid (setRow_heap _ _ _ _ _ _ HZl.out)
  have HBz : Hid (Below w.heap.size w (w17.setRow zb #[.int .i64 1, .string ⟨h.toArray⟩, .int .i64 0, .int .i64 0, .int .i64 (n : Int), .int .i64 (l : Int), .int .i64 0, .int .i64 0, .slice none 0 0, .string ⟨#[]⟩, .bool false, .int .i64 0, .slice none 0 0])) := hid (below_setRow (HBZ.out.trans (HRl.out.2.1.mono HS0.out)) HZB2.out _)
  generalize w17.setRow zb #[.int .i64 1, .string ⟨h.toArray⟩, .int .i64 0, .int .i64 0, .int .i64 (n : Int), .int .i64 (l : Int), .int .i64 0, .int .i64 0, .slice none 0 0, .string ⟨#[]⟩, .bool false, .int .i64 0, .slice none 0 0] = wz at *
  refine bodyPost_ret_by (results_cell2 rfl _ _ zb _ _ _ rfl HZz.out Tryd.underlying44 (by kernel_rfl)) rfl ?_
  exact ⟨rfl, HBz.out⟩
end Go.Proofs.YteiifligdfnifaaDoor
