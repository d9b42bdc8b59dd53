/-
  store.PutCall of an Open.
-/
import Derived.Test.YteiifligdfnifaaDoorCl4
import Derived.Deep.RegionWith
import Derived.Deep.CutBlock
import Derived.Deep.RegionHeld3
namespace Go.Proofs.YteiifligdfnifaaDoor
open Go.RowKit
set_option maxRecDepth 20000
set_option linter.unusedVariables false

def oS1 : WSt := numsW ([], false) [1]
def oS2 (h : ByteArray) : WSt := blobsW oS1 (tls [h])
def oS3 (h : ByteArray) (n l : Int) : WSt := numsW (oS2 h) [0, 0, n, l, 0, 0]
def oS4 (h : ByteArray) (n l : Int) : WSt := blobW (oS3 h n l) [0]
def oS5 (h : ByteArray) (n l : Int) : WSt := blobsW (oS4 h n l) (tls [⟨#[]⟩])
def oS6 (h : ByteArray) (n l : Int) : WSt := numsW (oS5 h n l) [0, 0, 0]
theorem oS_len (h : ByteArray) (n l : Int) (hh : h.size ≤ 32) : oS1.1.length ≤ 9 ∧ (oS2 h).1.length ≤ 50 ∧ (oS3 h n l).1.length ≤ 104 ∧ (oS4 h n l).1.length ≤ 114 ∧ (oS5 h n l).1.length ≤ 123 ∧ (oS6 h n l).1.length ≤ 150 := by
  have e0 : h.data.toList.length = h.size := by rw [Array.length_toList]; rfl
  have e1 : (tls [h]).flatten.length = h.size := by simp [tls]
  have h1 := numsW_len [1] ([], false)
  have h2 := blobsW_len (tls [h]) oS1 (fun x hx => by
    simp [tls] at hx
    rw [hx, Array.length_toList]
    show h.size < _
    omega)
  have h3 := numsW_len [0, 0, n, l, 0, 0] (oS2 h)
  have h4 := blobW_len (oS3 h n l) [0] (by decide)
  have h5 := blobsW_len (tls [⟨#[]⟩]) (oS4 h n l) (fun x hx => by simp [tls] at hx; rw [hx]; decide)
  have h6 := numsW_len [0, 0, 0] (oS5 h n l)
  have e2 : (tls [h]).length = 1 := rfl
  have e3 : (tls [(⟨#[]⟩ : ByteArray)]).length = 1 := rfl
  have e4 : (tls [(⟨#[]⟩ : ByteArray)]).flatten.length = 0 := rfl
  rw [e1, e2] at h2
  rw [e3, e4] at h5
  simp only [List.length_cons, List.length_nil] at h1 h3 h4 h6
  unfold oS6 oS5 oS4 oS3 oS2 oS1 at *
  omega
theorem st_bit (b : Bool) (w : World) : Calls Tryd.prog 64 #[.bool b] w fun e w' => e = .returned (.int .i64 (if b then 1 else 0)) ∧ w = w' := by
  go_enter Tryd.func64, Tryd.ntmps64
  cases b
  all_goals
    go_wp2_with fail
    go_ret
    exact ⟨rfl, rfl⟩

set_option maxHeartbeats 8000000 in
theorem put_open (h : ByteArray) (n l : Int) (w : World) (hh : h.size ≤ 32) (hb : (oS6 h n l).2 = false) :
    Calls Tryd.prog 54 #[.agg #[.int .i64 1, .string h, .int .i64 0, .int .i64 0, .int .i64 n, .int .i64 l, .int .i64 0, .int .i64 0, .slice none 0 0, .string ⟨#[]⟩, .bool false, .int .i64 0, .slice none 0 0]] w
      fun e w' => ∃ v, e = .returned (.tuple #[v, .int .i64 0]) ∧ w'.ownsRow w.heap.size 5 1 v (oS6 h n l).1.length ((oS6 h n l).1.map byt) ∧ Below w.heap.size w w' := by
  obtain ⟨l1, l2, l3, l4, l5, l6⟩ := oS_len h n l hh
  have HOB := hid (ObjAt.new w 44 #[.int .i64 1, .string h, .int .i64 0, .int .i64 0, .int .i64 n, .int .i64 l, .int .i64 0, .int .i64 0, .slice none 0 0, .string ⟨#[]⟩, .bool false, .int .i64 0, .slice none 0 0])
  have HB := hid (below_new (w := w) (.cells #[.int .i64 1, .string h, .int .i64 0, .int .i64 0, .int .i64 n, .int .i64 l, .int .i64 0, .int .i64 0, .slice none 0 0, .string ⟨#[]⟩, .bool false, .int .i64 0, .slice none 0 0] 44))
  have HBAD := hid hb
  clear hb
  have c8 := HOB.out.cell 8 (.slice none 0 0) rfl
  go_enter Tryd.func54, Tryd.ntmps54
  go_wp2_with fail
  refine (mu_put0 _).mono ?_
  rintro e1 w1 ⟨v1, rfl, ho1, hb1⟩
  have HOB1 := hid (HOB.out.below hb1)
  change Hid (ObjAt w1 w.heap.size 44 _) at HOB1
  have HB1 := hid (HB.out.trans (hb1.mono HB.out.size))
  obtain ⟨va, vc, rfl, -, -, -⟩ := owns_row ho1
  have HO1 := hid (owns_base ho1 (Nat.zero_le _))
  clear ho1 hb1 HB HOB c8
  generalize hob : w.heap.size = ob at HOB1 ⊢
  have HOBE := hid hob
  clear hob
  have c12 := HOB1.out.cell 12 (.slice none 0 0) rfl
  go_wp2_with fail
  refine (ws_new w1).mono ?_
  rintro e2 w2 ⟨rfl, hs, hb2⟩
  have HW2 := hid hs
  have HOB2 := hid (HOB1.out.below hb2)
  clear hs hb2 c12 HOB1
  generalize hwb : w1.heap.size = wb at HW2 ⊢
  have HWB := hid hwb
  clear hwb
  have c0 := HOB2.out.cell 0 (.int .i64 1) rfl
  -- the kind
  have HN := hid (ObjAt.new w2 3 #[.int .i64 1])
  have HR : Hid (RowAt (w2.alloc (.cells #[.int .i64 1] 3)) (some ⟨w2.heap.size, 0, none⟩) (([1] : List Int).map (Value.int .i64))) := RowAt.new _ _ _ _
  have HW2a := hid (HW2.out.below (below_new (.cells #[.int .i64 1] 3)))
  have HOB2a := hid (HOB2.out.below (below_new (.cells #[.int .i64 1] 3)))
  go_wp2_with fail
  refine (ws_nums HW2a.out [1] (by simp) _ 1 HR.out (fun _ => ⟨_, _, rfl, HN.out⟩)).mono ?_
  rintro e3 w3 ⟨rfl, hs3, hk3⟩
  have HW3 : Hid (WS w1 w3 wb oS1) := hid hs3
  have HOB3 := hid (hk3 _ _ _ (by decide) (by decide) HOB2a.out)
  clear hs3 hk3 HN HR HW2a HOB2a HW2 HOB2 c0
  -- the home
  have c1 := HOB3.out.cell 1 (.string h) rfl
  have HN := hid (ObjAt.new w3 9 #[.string h])
  have HR : Hid (RowAt (w3.alloc (.cells #[.string h] 9)) (some ⟨w3.heap.size, 0, none⟩) ([h].map Value.string)) := RowAt.new _ _ _ _
  have HW3a := hid (HW3.out.below (below_new (.cells #[.string h] 9)))
  have HOB3a := hid (HOB3.out.below (below_new (.cells #[.string h] 9)))
  have htl : (tls [h]).flatten.length = h.size := by simp [tls]
  go_wp2_with fail
  refine (ws_texts HW3a.out [h] (by rw [htl]; simp; omega) _ 1 _ HR.out HN.out).mono ?_
  rintro e4 w4 ⟨rfl, hs4, hk4⟩
  have HW4 : Hid (WS w1 w4 wb (oS2 h)) := hid hs4
  have HOB4 := hid (hk4 _ _ _ (by decide) (by decide) HOB3a.out)
  clear hs4 hk4 HN HR HW3a HOB3a HW3 HOB3 c1 htl
  -- six numbers
  have c2 := HOB4.out.cell 2 (.int .i64 0) rfl
  have c3 := HOB4.out.cell 3 (.int .i64 0) rfl
  have c4 := HOB4.out.cell 4 (.int .i64 n) rfl
  have c5 := HOB4.out.cell 5 (.int .i64 l) rfl
  have c6 := HOB4.out.cell 6 (.int .i64 0) rfl
  have c7 := HOB4.out.cell 7 (.int .i64 0) rfl
  have HN := hid (ObjAt.new w4 3 #[.int .i64 0, .int .i64 0, .int .i64 n, .int .i64 l, .int .i64 0, .int .i64 0])
  have HR : Hid (RowAt (w4.alloc (.cells #[.int .i64 0, .int .i64 0, .int .i64 n, .int .i64 l, .int .i64 0, .int .i64 0] 3)) (some ⟨w4.heap.size, 0, none⟩) (([0, 0, n, l, 0, 0] : List Int).map (Value.int .i64))) := RowAt.new _ _ _ _
  have HW4a := hid (HW4.out.below (below_new (.cells #[.int .i64 0, .int .i64 0, .int .i64 n, .int .i64 l, .int .i64 0, .int .i64 0] 3)))
  have HOB4a := hid (HOB4.out.below (below_new (.cells #[.int .i64 0, .int .i64 0, .int .i64 n, .int .i64 l, .int .i64 0, .int .i64 0] 3)))
  go_wp2_with fail
  refine (ws_nums HW4a.out [0, 0, n, l, 0, 0] (by simp; omega) _ 6 HR.out (fun _ => ⟨_, _, rfl, HN.out⟩)).mono ?_
  rintro e5 w5 ⟨rfl, hs5, hk5⟩
  have HW5 : Hid (WS w1 w5 wb (oS3 h n l)) := hid hs5
  have HOB5 := hid (hk5 _ _ _ (by decide) (by decide) HOB4a.out)
  clear hs5 hk5 HN HR HW4a HOB4a HW4 HOB4 c2 c3 c4 c5 c6 c7
  -- the ops
  have HN := hid (ObjAt.new w5 37 #[.slice va 1 vc])
  have HR : Hid (RowAt (w5.alloc (.cells #[.slice va 1 vc] 37)) (some ⟨w5.heap.size, 0, none⟩) [.slice va 1 vc]) := RowAt.new _ _ _ _
  have HW5a := hid (HW5.out.below (below_new (.cells #[.slice va 1 vc] 37)))
  have HOB5a := hid (HOB5.out.below (below_new (.cells #[.slice va 1 vc] 37)))
  have HV := hid (owns_bytes (l := [0]) (owns_below HO1.out HW5a.out.bel))
  go_wp2_with fail
  refine (ws_blob HW5a.out [0] (.slice va 1 vc) (by simp; omega) _ 1 _ HR.out HN.out HV.out (fun _ k e => (own_lt HO1.out k e).2)).mono ?_
  rintro e6 w6 ⟨rfl, hs6, hk6⟩
  have HW6 : Hid (WS w1 w6 wb (oS4 h n l)) := hid hs6
  have HOB6 := hid (hk6 _ _ _ (by decide) (by decide) HOB5a.out)
  clear hs6 hk6 HN HR HW5a HOB5a HW5 HOB5 HV
  -- the path
  have c9 := HOB6.out.cell 9 (.string ⟨#[]⟩) rfl
  have HN := hid (ObjAt.new w6 9 #[.string ⟨#[]⟩])
  have HR : Hid (RowAt (w6.alloc (.cells #[.string ⟨#[]⟩] 9)) (some ⟨w6.heap.size, 0, none⟩) ([(⟨#[]⟩ : ByteArray)].map Value.string)) := RowAt.new _ _ _ _
  have HW6a := hid (HW6.out.below (below_new (.cells #[.string ⟨#[]⟩] 9)))
  have HOB6a := hid (HOB6.out.below (below_new (.cells #[.string ⟨#[]⟩] 9)))
  have htl : (tls [(⟨#[]⟩ : ByteArray)]).flatten.length = 0 := rfl
  go_wp2_with fail
  refine (ws_texts HW6a.out [⟨#[]⟩] (by rw [htl]; simp; omega) _ 1 _ HR.out HN.out).mono ?_
  rintro e7 w7 ⟨rfl, hs7, hk7⟩
  have HW7 : Hid (WS w1 w7 wb (oS5 h n l)) := hid hs7
  have HOB7 := hid (hk7 _ _ _ (by decide) (by decide) HOB6a.out)
  clear hs7 hk7 HN HR HW6a HOB6a HW6 HOB6 c9 htl
  have c10 := HOB7.out.cell 10 (.bool false) rfl
  have c11 := HOB7.out.cell 11 (.int .i64 0) rfl
  have c12 := HOB7.out.cell 12 (.slice none 0 0) rfl
  have HN8 : Hid (Calls Tryd.prog 48 #[.pointer (some ⟨wb, 0, none⟩), .slice (some ⟨w7.heap.size, 0, none⟩) 3 3] (w7.alloc (.cells #[.int .i64 0, .int .i64 0, .int .i64 0] 3)).drew fun e w' => e = .returned (.tuple #[]) ∧ WS w1 w' wb (oS6 h n l) ∧ ObjAt w' ob 44 #[.int .i64 1, .string h, .int .i64 0, .int .i64 0, .int .i64 n, .int .i64 l, .int .i64 0, .int .i64 0, .slice none 0 0, .string ⟨#[]⟩, .bool false, .int .i64 0, .slice none 0 0]) := by
    have hbd : Below w7.heap.size w7 (w7.alloc (.cells #[.int .i64 0, .int .i64 0, .int .i64 0] 3)).drew := (below_new _).drew
    refine (ws_nums (HW7.out.below hbd) [0, 0, 0] (by simp; omega) (some ⟨w7.heap.size, 0, none⟩) 3 ((RowAt.new _ _ _ _ : RowAt (w7.alloc (.cells #[.int .i64 0, .int .i64 0, .int .i64 0] 3)) _ _).below (Below.refl _ _).drew) (fun _ => ⟨_, _, rfl, (ObjAt.new w7 _ _).below (Below.refl _ _).drew⟩)).mono ?_
    rintro e w' ⟨he, h1, h2⟩
    exact ⟨he, h1, h2 _ _ _ (by decide) (by decide) (HOB7.out.below hbd)⟩
  go_upto_region 10 with fail
  go_region_with (first
    | (go_at_call 64; refine (st_bit false _).mono ?_; rintro e8 w8 ⟨rfl, rfl⟩)
    | (go_at_call 48; refine HN8.out.mono ?_; rintro e9 w9 ⟨rfl, hs9, ho9⟩))
  all_goals
    have HW9 := hid hs9
    have HOB9 := hid ho9
    clear hs9 ho9 HN8 HW7 HOB7 c10 c11 c12
    have c12 := HOB9.out.cell 12 (.slice none 0 0) rfl
    go_wp2_with fail
    refine (ws_nums HW9.out [] (by simp; omega) none 0 (RowAt.nil _ _) (fun e => absurd rfl e)).mono ?_
    rintro e10 w10 ⟨rfl, hs10, -⟩
    have HW10 : Hid (WS w1 w10 wb (oS6 h n l)) := hid hs10
    clear hs10 HW9 HOB9 c12
    go_wp2_with fail
    refine (ws_out HW10.out (by omega)).mono ?_
    rintro e11 w11 ⟨hb11, hcase⟩
    have HB11 := hid (HB1.out.trans ((HW10.out.bel.trans (hb11.mono HW10.out.bel.size)).mono HB1.out.size))
    rcases hcase with ⟨hbad, -⟩ | ⟨-, v11, rfl, ho11⟩
    · have := HBAD.out
      rw [hbad] at this
      cases this
    · have hsz : w.heap.size ≤ w10.heap.size := Nat.le_trans HB1.out.size HW10.out.bel.size
      have HO11 := hid (owns_base ho11 hsz)
      obtain ⟨vb, vd, rfl, -, -, -⟩ := owns_row ho11
      clear ho11 hb11
      have hlen : ((oS6 h n l).1.length : Int) ≤ 32768 := by omega
      go_wp2_with fail
      go_ret2
      exact ⟨_, rfl, HO11.out, HB11.out⟩
end Go.Proofs.YteiifligdfnifaaDoor
