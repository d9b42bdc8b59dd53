/-
  Read, Safe, New.
-/
import Derived.Test.YtibhkkfbhbnmeaaDsk4
namespace Go.Proofs.Ytibhkkfbhbnmeaa
open Go.RowKit Go.ChangeMaps
set_option maxRecDepth 20000
set_option linter.unusedVariables false

/-- The disk at d, whose table is at m, holds F. -/
structure DkAt (w : World) (d m : Nat) (cap : Int) (F : List Fl) : Prop where
  obj : ObjAt w d 57 #[.map (some m), .int .i64 cap]
  tab : TabAt w m F
theorem DkAt.below {w w' : World} {d m : Nat} {cap : Int} {F : List Fl} (h : DkAt w d m cap F) (hb : Below w.heap.size w w') : DkAt w' d m cap F := ⟨h.obj.below hb, h.tab.below hb⟩
def ReadPost (w : World) (F : List Fl) (s : ByteArray) (e : Ending) (w' : World) : Prop :=
  Below w.heap.size w w' ∧ ((findE F [s] ≠ 0 ∧ e = .returned (.tuple #[.slice none 0 0, .int .i64 (findE F [s])])) ∨
    (findE F [s] = 0 ∧ ∃ (x : Fl) (v : Value), x ∈ F ∧ x.nm = bl s ∧ e = .returned (.tuple #[v, .int .i64 0]) ∧ w'.ownsRow w.heap.size 5 1 v x.b.length (x.b.map byt)))
def SafePost (w : World) (F : List Fl) (s : ByteArray) (e : Ending) (w' : World) : Prop :=
  Below w.heap.size w w' ∧ ((findE F [s] ≠ 0 ∧ e = .returned (.tuple #[.int .i64 0, .int .i64 (findE F [s])])) ∨
    (findE F [s] = 0 ∧ ∃ (x : Fl), x ∈ F ∧ x.nm = bl s ∧ e = .returned (.tuple #[.int .i64 (x.safe : Nat), .int .i64 0])))
theorem one_file {fs : List Fl} {s : ByteArray} (h : fs.map Fl.nm = [s].map bl) : ∃ x, fs = [x] ∧ x.nm = bl s := by
  cases fs with
  | nil => simp at h
  | cons x fs =>
    cases fs with
    | nil => exact ⟨x, rfl, by simpa using h⟩
    | cons y fs => simp at h
theorem total_le {F : List Fl} {x : Fl} (h : x ∈ F) : x.b.length ≤ total F := by
  unfold total
  induction F with
  | nil => simp at h
  | cons y F ih =>
    rw [List.map_cons, List.sum_cons]
    rcases List.mem_cons.1 h with rfl | h
    · omega
    · have := ih h; omega

set_option maxHeartbeats 1000000 in
theorem disk_read (d m : Nat) (cap : Int) (F : List Fl) (s : ByteArray) (w : World) (h : DkAt w d m cap F) (hm : total F ≤ 1073741824) :
    Calls Try.prog 9 #[.pointer (some ⟨d, 0, none⟩), .string s] w (ReadPost w F s) := by
  have HH := hid h
  have c0 := h.obj.cell 0 _ rfl
  clear h
  go_enter Try.func9, Try.ntmps9
  go_wp2_with fail
  have hbn := below_new (w := w) (.cells #[.string s] 9)
  have HB1 := hid hbn
  have HT := hid (HH.out.tab.below hbn)
  have HR := hid (RowAt.new w #[.string s] 9 (0, 0))
  generalize hnb : w.heap.size = nb at *
  have HNB := hid hnb
  generalize w.alloc (.cells #[.string s] 9) = w1 at *
  clear hbn hnb c0
  refine (tab_find m F (some ⟨nb, 0, none⟩) [s] 1 w1 HT.out HR.out (by simp)).mono ?_
  rintro e w2 ⟨hb2, hc⟩
  have HB2 := hid (HB1.out.trans (hb2.mono (by have := HB1.out.size; rw [HNB.out] at this; exact this)))
  have hz1 : nb ≤ w1.heap.size := by have := HB1.out.size; rw [HNB.out] at this; exact this
  have hz2 : nb ≤ w2.heap.size := Nat.le_trans hz1 hb2.size
  have HT2 := hid (HT.out.below hb2)
  clear hb2 HT HR HB1 HH
  rcases hc with ⟨hne, rfl⟩ | ⟨he, fs, v, rfl, ho, hn, hf⟩
  · have HE := hid hne
    obtain ⟨z, hz⟩ : ∃ z, z = findE F [s] := ⟨_, rfl⟩
    have HZ := hid hz
    rw [← hz]
    have e1 : (z == 0) = false := beq_eq_false_iff_ne.2 (by rw [hz]; exact hne)
    clear hne hz
    go_wp2_with fail
    go_ret2
    exact ⟨by rw [HNB.out]; exact HB2.out, .inl ⟨HE.out, by rw [← HZ.out]; rfl⟩⟩
  · have HE := hid he
    obtain ⟨x, rfl, hx⟩ := one_file hn
    have HX := hid hx
    have HXF := hid (hf x (List.mem_singleton_self x))
    obtain ⟨k, c, rfl, hk, hr⟩ := own_at' ho (by simp)
    obtain ⟨b', o', e', hc'⟩ := hr 0 (fptr x) rfl
    simp only [Option.some.injEq, Addr.mk.injEq, and_true] at e'
    obtain ⟨rfl, rfl⟩ := e'
    unfold fptr at hc'
    have c0 := (HT2.out.obj x HXF.out).cell 0 x.v rfl
    have HBY := hid (HT2.out.row x HXF.out).bytes
    have hl := total_le HXF.out
    clear he hn hf ho hr hx
    go_wp2_with fail
    refine (bytes_clone x.v x.b w2 HBY.out (by omega)).mono ?_
    rintro e w3 ⟨v3, rfl, ho3, hb3⟩
    have HB3 := hid (HB2.out.trans (hb3.mono hz2))
    have HO3 := hid (owns_base (base' := nb) ho3 hz2)
    clear ho3 hb3 hc' c0 HBY
    go_wp2_with fail
    go_ret2
    exact ⟨by rw [HNB.out]; exact HB3.out, .inr ⟨HE.out, x, v3, HXF.out, HX.out, rfl, by rw [HNB.out]; exact HO3.out⟩⟩

set_option maxHeartbeats 1000000 in
theorem disk_safe (d m : Nat) (cap : Int) (F : List Fl) (s : ByteArray) (w : World) (h : DkAt w d m cap F) :
    Calls Try.prog 10 #[.pointer (some ⟨d, 0, none⟩), .string s] w (SafePost w F s) := by
  have HH := hid h
  have c0 := h.obj.cell 0 _ rfl
  clear h
  go_enter Try.func10, Try.ntmps10
  go_wp2_with fail
  have hbn := below_new (w := w) (.cells #[.string s] 9)
  have HB1 := hid hbn
  have HT := hid (HH.out.tab.below hbn)
  have HR := hid (RowAt.new w #[.string s] 9 (0, 0))
  generalize hnb : w.heap.size = nb at *
  have HNB := hid hnb
  generalize w.alloc (.cells #[.string s] 9) = w1 at *
  clear hbn hnb c0
  refine (tab_find m F (some ⟨nb, 0, none⟩) [s] 1 w1 HT.out HR.out (by simp)).mono ?_
  rintro e w2 ⟨hb2, hc⟩
  have HB2 := hid (HB1.out.trans (hb2.mono (by have := HB1.out.size; rw [HNB.out] at this; exact this)))
  have HT2 := hid (HT.out.below hb2)
  clear hb2 HT HR HB1 HH
  rcases hc with ⟨hne, rfl⟩ | ⟨he, fs, v, rfl, ho, hn, hf⟩
  · have HE := hid hne
    obtain ⟨z, hz⟩ : ∃ z, z = findE F [s] := ⟨_, rfl⟩
    have HZ := hid hz
    rw [← hz]
    have e1 : (z == 0) = false := beq_eq_false_iff_ne.2 (by rw [hz]; exact hne)
    clear hne hz
    go_wp2_with fail
    go_ret2
    exact ⟨by rw [HNB.out]; exact HB2.out, .inl ⟨HE.out, by rw [← HZ.out]; rfl⟩⟩
  · have HE := hid he
    obtain ⟨x, rfl, hx⟩ := one_file hn
    have HX := hid hx
    have HXF := hid (hf x (List.mem_singleton_self x))
    obtain ⟨k, c, rfl, hk, hr⟩ := own_at' ho (by simp)
    obtain ⟨b', o', e', hc'⟩ := hr 0 (fptr x) rfl
    simp only [Option.some.injEq, Addr.mk.injEq, and_true] at e'
    obtain ⟨rfl, rfl⟩ := e'
    unfold fptr at hc'
    have c1 := (HT2.out.obj x HXF.out).cell 1 _ rfl
    clear he hn hf ho hr hx
    go_wp2_with fail
    go_ret2
    exact ⟨by rw [HNB.out]; exact HB2.out, .inr ⟨HE.out, x, HXF.out, HX.out, rfl⟩⟩

/-- What New tells. -/
def newOk (c : Int) : Bool := decide (0 ≤ c) && decide (c ≤ 1073741824)
theorem disk_new (c : Int) (w : World) (h : newOk c = true) : Calls Try.prog 6 #[.int .i64 c] w fun e w' => ∃ d m, e = .returned (.tuple #[.pointer (some ⟨d, 0, none⟩), .int .i64 0]) ∧ DkAt w' d m c [] ∧ Below w.heap.size w w' ∧ w.heap.size ≤ d ∧ w.heap.size ≤ m := by
  have hmm := @run_makeMap Try.prog
  unfold newOk at h
  simp only [Bool.and_eq_true, decide_eq_true_eq] at h
  obtain ⟨h1, h2⟩ := h
  go_enter Try.func6, Try.ntmps6
  go_wp2_with fail
  go_ret2
  refine ⟨w.heap.size + 1, w.heap.size, rfl, ⟨?_, ?_⟩, ?_, by omega, by omega⟩
  · have h := ObjAt.new (w.alloc (.map #[] 0)) 57 #[.map (some w.heap.size), .int .i64 c]
    rw [show (w.alloc (.map #[] 0)).heap.size = w.heap.size + 1 from by simp] at h
    exact h
  · exact ⟨(MapAt.new w tkey).below (below_new _), by simp, by simp, by simp, by simp⟩
  · exact ((Below.refl _ _).alloc (Nat.le_refl _) _).alloc (by simp) _
theorem disk_newE (c : Int) (w : World) (h : newOk c = false) : Calls Try.prog 6 #[.int .i64 c] w fun e w' => e = .returned (.tuple #[.pointer none, .int .i64 32]) ∧ w = w' := by
  unfold newOk at h
  by_cases h0 : c < 0
  · clear h
    go_enter Try.func6, Try.ntmps6
    go_wp2_with fail
    go_ret2
    exact ⟨rfl, rfl⟩
  · have h1 : 1073741824 < c := by
      simp only [Bool.and_eq_false_iff, decide_eq_false_iff_not] at h
      omega
    clear h
    go_enter Try.func6, Try.ntmps6
    go_wp2_with fail
    go_ret2
    exact ⟨rfl, rfl⟩
end Go.Proofs.Ytibhkkfbhbnmeaa
