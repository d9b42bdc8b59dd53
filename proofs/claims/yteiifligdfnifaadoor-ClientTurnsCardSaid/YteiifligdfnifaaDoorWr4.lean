/-
  wire.Writer's buffer (bytes.Buffer, only written): Write, WriteString.
-/
import Derived.Test.YteiifligdfnifaaDoorWr2
import Derived.Test.YteiifligdfnifaaDoorWr3
namespace Go.Proofs.YteiifligdfnifaaDoor
open Go.RowKit
set_option maxRecDepth 100000
set_option linter.unusedVariables false

/-- What a writer's call leaves. -/
def WrPost (w : World) (b : Nat) (g : Option Nat) (bs : List Value) (bad : Bool) (r : Value) (e : Ending) (w' : World) : Prop :=
  e = .returned r ∧ ∃ g', WrAt w' b g' bs bad ∧ KeptS (WB b g) w w' ∧ ∀ k, g' = some k → g = some k ∨ w.heap.size ≤ k

/-- What lies ready behind growing. -/
structure Ready (w w1 : World) (b : Nat) (g : Option Nat) (N L n cap : Nat) (lr : Int) (bs : List Value) (bad : Bool) (cells : Array Value) : Prop where
  obj : ObjAt w1 b 130 (wcells (.slice (some ⟨N, 0, none⟩) (L + n) cap) lr bad)
  row : w1.heap[N]? = some (.cells cells 5 (0, 0))
  len : bs.length = L
  size : cells.size = cap
  take : cells.toList.take L = bs
  room : L + n ≤ cap
  most : cap ≤ maxLen
  ne : N ≠ b
  old : g = some N ∨ w.heap.size ≤ N
  kept : Kept w.heap.size b w w1
theorem setRow_kept (w : World) (k : Nat) (cs : Array Value) (h : k < w.heap.size) : Kept w.heap.size k w (w.setRow k cs) :=
  ⟨rfl, rfl, rfl, by simp, fun i hi hn => setRow_other _ _ _ _ hn⟩
theorem Ready.done {w w1 : World} {b : Nat} {g : Option Nat} {N L n cap : Nat} {lr : Int} {bs news : List Value} {bad : Bool} {cells : Array Value} (h : Ready w w1 b g N L n cap lr bs bad cells) (hn : news.length = n) (h0 : 1 ≤ n) :
    ∃ g', WrAt (w1.setRow N (cells.toList.take L ++ (news ++ cells.toList.drop (L + n))).toArray) b g' (bs ++ news) bad ∧ KeptS (WB b g) w (w1.setRow N (cells.toList.take L ++ (news ++ cells.toList.drop (L + n))).toArray) ∧ ∀ k, g' = some k → g = some k ∨ w.heap.size ≤ k := by
  have hl := h.len
  have hNlt : N < w1.heap.size := (Array.getElem?_eq_some_iff.1 h.row).1
  have hk := setRow_kept w1 N (cells.toList.take L ++ (news ++ cells.toList.drop (L + n))).toArray hNlt
  have hsz : (cells.toList.take L ++ (news ++ cells.toList.drop (L + n))).toArray.size = cap := by
    have h1 := h.size
    have h2 := h.room
    simp only [List.size_toArray, List.length_append, List.length_take, List.length_drop, Array.length_toList, hn]; omega
  have hlen : (bs ++ news).length = L + n := by rw [List.length_append, hl, hn]
  refine ⟨some N, WrAt.mk' (lr := lr) (cap := cap) (cur := (cells.toList.take L ++ (news ++ cells.toList.drop (L + n))).toArray) ?_ (setRow_heap w1 N cells _ 5 (0, 0) h.row) (by rw [hlen]; exact h.room) h.most hsz ?_ h.ne (by rw [hlen]; omega), ?_, fun k e => by cases e; exact h.old⟩
  · rw [hlen]; exact h.obj.kept hk h.ne.symm
  · rw [hlen, List.toList_toArray, h.take, ← List.append_assoc, List.take_append_of_le_length (by rw [hlen]; exact Nat.le_refl _), List.take_of_length_le (by rw [hlen]; exact Nat.le_refl _)]
  · refine (KeptS.of_kept h.kept (S := WB b g) (.inl rfl)).trans (KeptS.of_kept hk (S := fun q => q = N) rfl) (fun i hi e => ?_)
    rcases h.old with ho | ho
    · exact .inr (e ▸ ho)
    · omega
theorem ready_nil {w w0 w1 : World} {b N n cap : Nat} {lr : Int} {bad : Bool} {cells : Array Value} (hk0 : Kept w.heap.size b w w0) (ho : ObjAt w1 b 130 (wcells (.slice (some ⟨N, 0, none⟩) n cap) lr bad)) (hN : w1.heap[N]? = some (.cells cells 5 (0, 0)))
    (hs : cells.size = cap) (hr : n ≤ cap) (hm : cap ≤ maxLen) (hw : w0.heap.size ≤ N) (hb : b < w.heap.size) (hk : Kept w0.heap.size b w0 w1) : Ready w w1 b none N 0 n cap lr [] bad cells :=
  ⟨by rw [Nat.zero_add]; exact ho, hN, rfl, hs, by simp, by omega, hm, by have := hk0.size; omega, .inr (Nat.le_trans hk0.size hw), hk0.trans (hk.mono hk0.size)⟩
theorem ready_none {w w0 w1 : World} {b k N L n cap : Nat} {lr : Int} {bs : List Value} {bad : Bool} {cells cur : Array Value} (hk0 : Kept w.heap.size b w w0) (ho : ObjAt w1 b 130 (wcells (.slice (some ⟨N, 0, none⟩) (L + n) cap) lr bad)) (hN : w1.heap[N]? = some (.cells cells 5 (0, 0)))
    (hs : cells.size = cap) (ht : cells.toList.take L = cur.toList.take L) (htk : cur.toList.take L = bs) (hl : bs.length = L) (hr : L + n ≤ cap) (hm : cap ≤ maxLen) (hw : w0.heap.size ≤ N) (hb : b < w.heap.size) (hk : Kept w0.heap.size b w0 w1) : Ready w w1 b (some k) N L n cap lr bs bad cells :=
  ⟨ho, hN, hl, hs, ht.trans htk, hr, hm, by have := hk0.size; omega, .inr (Nat.le_trans hk0.size hw), hk0.trans (hk.mono hk0.size)⟩
theorem ready_room {w w0 : World} {b k L n cap : Nat} {lr : Int} {bs : List Value} {bad : Bool} {cur : Array Value} {u : Value} (hk0 : Kept w.heap.size b w w0) (ho : ObjAt w0 b 130 (wcells u lr bad)) (hg : w0.heap[k]? = some (.cells cur 5 (0, 0)))
    (hs : cur.size = cap) (htk : cur.toList.take L = bs) (hl : bs.length = L) (hr : L + n ≤ cap) (hm : cap ≤ maxLen) (hkb : k ≠ b) : Ready w (w0.setCell ⟨b, 0, none⟩ (.slice (some ⟨k, 0, none⟩) (L + n) cap)) b (some k) k L n cap lr bs bad cur :=
  ⟨ho.set 0 _, heap_set hg hkb, hl, hs, htk, hr, hm, hkb, .inl rfl, hk0.trans ((Kept.set w0 ⟨b, 0, none⟩ _).mono hk0.size)⟩
theorem info1 : (Tryd.prog.info? 5).map (·.size) = some 1 := by
  obtain ⟨i0, hi, -, hz1, -⟩ := info_parts info5
  rw [hi]; simp [hz1]

theorem src_kept {w w1 : World} {b : Nat} {ad : Addr} {vs : List Value} (hne : ad.block ≠ b) (hk : Kept w.heap.size b w w1) (hr : RowAt w (some ad) vs) : ∀ j v, vs[j]? = some v → w1.cell? (ad.add j) = some v :=
  (hr.kept hk (fun a e => by cases e; exact hne)).add

set_option maxHeartbeats 6400000 in
theorem buf_write (b : Nat) (g : Option Nat) (bs : List Value) (bad : Bool) (ad : Addr) (l : List UInt8) (c : Nat) (w : World) (h : WrAt w b g bs bad) (h1 : ∀ v ∈ bs, v.oneCell' = true) (hr : RowAt w (some ad) (l.map byt)) (hne : ad.block ≠ b) (hl : 1 ≤ l.length) (hlim : bs.length + l.length ≤ 140737488355328) :
    Calls Tryd.prog 61 #[.pointer (some ⟨b, 0, none⟩), .slice (some ad) l.length c] w (WrPost w b g (bs ++ l.map byt) bad (.tuple #[.int .i64 l.length, .nilIface])) := by
  have hlt := h.lt b (.inl rfl)
  obtain ⟨lr, hc⟩ := h.cases
  rcases hc with ⟨rfl, rfl, ho⟩ | ⟨k, cap, cur, rfl, ho, hg, hnc, hcm, hcs, htk, hkb, h1l⟩
  · have c2 := ho.cell 2 _ rfl
    have f2 := ho.frozen 2
    go_enter Tryd.func61, Tryd.ntmps61
    go_wp2_with fail
    have HO := hid (ho.set 2 (.int .i8 0))
    have HK := hid (Kept.set (B := w.heap.size) w ⟨b, 2, none⟩ (.int .i8 0))
    clear c2 f2 ho
    generalize w.setCell ⟨b, 2, none⟩ (.int .i8 0) = W at HO HK ⊢
    refine (tryGrow_none b _ 0 0 l.length W (HO.out.cell 0 _ rfl) (Nat.le_refl _) (Nat.zero_le _) (by omega)).mono ?_
    rintro e w' ⟨rfl, rfl⟩
    go_wp2_with fail
    by_cases h64 : l.length ≤ 64
    · refine (grow_nil_small b l.length _ bad _ HO.out hl h64).mono ?_
      rintro e W1 ⟨rfl, N, cap2, cells, ho1, hN, hcs1, hn1, hcm1, hNw, hk1⟩
      have HR := hid (ready_nil HK.out ho1 hN hcs1 hn1 hcm1 hNw hlt hk1)
      clear ho1 hN hcs1 hn1 hcm1 hNw hk1 HO HK
      have hcp := run_copy_row (P := Tryd.prog) W1 37 37 3 5 N 0 l.length (cap2 - 0) ad l.length c cells 5 (l.map byt) Tryd.underlying37 info1 HR.out.row (by rw [List.length_map]; exact (Nat.min_self _).symm) (src_kept hne HR.out.kept hr) (by rw [List.length_map, HR.out.size]; exact HR.out.room) (oneCell_bytes l)
      simp only [List.length_map] at hcp
      simp only [Nat.sub_zero, Nat.zero_add] at hcp
      have d0 := HR.out.obj.cell 0 _ rfl
      simp only [Nat.zero_add] at d0
      have hm9 : cap2 ≤ 9223372036854775807 := by have := HR.out.most; unfold maxLen at this; exact this
      have hr9 : l.length ≤ cap2 := by have := HR.out.room; omega
      obtain ⟨g', q1, q2, q3⟩ := HR.out.done (news := l.map byt) (by simp) hl
      simp only [Nat.zero_add] at q1 q2
      have Q1 := hid q1
      have Q2 := hid q2
      clear q1 q2
      go_wp2
      go_ret2
      exact ⟨rfl, g', Q1.out, Q2.out, q3⟩
    · refine (grow_nil_big b l.length _ bad _ HO.out (by omega) (by simpa using hlim)).mono ?_
      rintro e W1 ⟨rfl, N, cap2, cells, ho1, hN, hcs1, hn1, hcm1, hNw, hk1⟩
      have HR := hid (ready_nil HK.out ho1 hN hcs1 hn1 hcm1 hNw hlt hk1)
      clear ho1 hN hcs1 hn1 hcm1 hNw hk1 HO HK
      have hcp := run_copy_row (P := Tryd.prog) W1 37 37 3 5 N 0 l.length (cap2 - 0) ad l.length c cells 5 (l.map byt) Tryd.underlying37 info1 HR.out.row (by rw [List.length_map]; exact (Nat.min_self _).symm) (src_kept hne HR.out.kept hr) (by rw [List.length_map, HR.out.size]; exact HR.out.room) (oneCell_bytes l)
      simp only [List.length_map] at hcp
      simp only [Nat.sub_zero, Nat.zero_add] at hcp
      have d0 := HR.out.obj.cell 0 _ rfl
      simp only [Nat.zero_add] at d0
      have hm9 : cap2 ≤ 9223372036854775807 := by have := HR.out.most; unfold maxLen at this; exact this
      have hr9 : l.length ≤ cap2 := by have := HR.out.room; omega
      obtain ⟨g', q1, q2, q3⟩ := HR.out.done (news := l.map byt) (by simp) hl
      simp only [Nat.zero_add] at q1 q2
      have Q1 := hid q1
      have Q2 := hid q2
      clear q1 q2
      go_wp2
      go_ret2
      exact ⟨rfl, g', Q1.out, Q2.out, q3⟩
  · have c2 := ho.cell 2 _ rfl
    have f2 := ho.frozen 2
    go_enter Tryd.func61, Tryd.ntmps61
    go_wp2_with fail
    have HO := hid (ho.set 2 (.int .i8 0))
    have HK := hid (Kept.set (B := w.heap.size) w ⟨b, 2, none⟩ (.int .i8 0))
    have HG := hid (heap_set (i := 2) (v := .int .i8 0) hg hkb)
    have HTK := hid htk
    have HCS := hid hcs
    clear c2 f2 ho hg htk hcs
    generalize w.setCell ⟨b, 2, none⟩ (.int .i8 0) = W at HO HK HG ⊢
    by_cases hroom : l.length ≤ cap - bs.length
    · refine (tryGrow_room b _ bs.length cap l.length W (HO.out.cell 0 _ rfl) (HO.out.frozen 0) hnc hcm hroom).mono ?_
      rintro e w' ⟨rfl, rfl⟩
      have HR := hid (ready_room (L := bs.length) (n := l.length) HK.out HO.out HG.out HCS.out HTK.out rfl (by omega) hcm hkb)
      clear HO HK HG HTK HCS
      generalize W.setCell ⟨b, 0, none⟩ (.slice (some ⟨k, 0, none⟩) (bs.length + l.length) cap) = W1 at HR ⊢
      have hcp := run_copy_row (P := Tryd.prog) W1 37 37 3 5 k bs.length l.length (cap - bs.length) ad l.length c cur 5 (l.map byt) Tryd.underlying37 info1 HR.out.row (by rw [List.length_map]; exact (Nat.min_self _).symm) (src_kept hne HR.out.kept hr) (by rw [List.length_map, HR.out.size]; exact HR.out.room) (oneCell_bytes l)
      simp only [List.length_map] at hcp
      have d0 := HR.out.obj.cell 0 _ rfl
      have hcl : ¬ cap = bs.length := by have := HR.out.room; omega
      have hm9 : cap ≤ 9223372036854775807 := by have := HR.out.most; unfold maxLen at this; exact this
      have hr9 : bs.length + l.length ≤ cap := HR.out.room
      obtain ⟨g', q1, q2, q3⟩ := HR.out.done (news := l.map byt) (by simp) hl
      have Q1 := hid q1
      have Q2 := hid q2
      clear q1 q2
      go_wp2
      go_ret2
      exact ⟨rfl, g', Q1.out, Q2.out, q3⟩
    · refine (tryGrow_none b _ bs.length cap l.length W (HO.out.cell 0 _ rfl) hnc hcm (by omega)).mono ?_
      rintro e w' ⟨rfl, rfl⟩
      go_wp2_with fail
      refine (grow_row b k bs.length cap l.length _ cur bad _ HO.out HG.out h1l hnc hcm HCS.out hkb (by rw [HTK.out]; exact h1) hl (by omega) hlim).mono ?_
      rintro e W1 ⟨rfl, N, cap2, cells, ho1, hN, hcs1, ht1, hn1, hcm1, hNw, hk1⟩
      have HR := hid (ready_none (k := k) HK.out ho1 hN hcs1 ht1 HTK.out rfl hn1 hcm1 hNw hlt hk1)
      clear ho1 hN hcs1 ht1 hn1 hcm1 hNw hk1 HO HK HG HTK HCS
      have hcp := run_copy_row (P := Tryd.prog) W1 37 37 3 5 N bs.length l.length (cap2 - bs.length) ad l.length c cells 5 (l.map byt) Tryd.underlying37 info1 HR.out.row (by rw [List.length_map]; exact (Nat.min_self _).symm) (src_kept hne HR.out.kept hr) (by rw [List.length_map, HR.out.size]; exact HR.out.room) (oneCell_bytes l)
      simp only [List.length_map] at hcp
      have d0 := HR.out.obj.cell 0 _ rfl
      have hcl : ¬ cap2 = bs.length := by have := HR.out.room; omega
      have hm9 : cap2 ≤ 9223372036854775807 := by have := HR.out.most; unfold maxLen at this; exact this
      have hr9 : bs.length + l.length ≤ cap2 := HR.out.room
      obtain ⟨g', q1, q2, q3⟩ := HR.out.done (news := l.map byt) (by simp) hl
      have Q1 := hid q1
      have Q2 := hid q2
      clear q1 q2
      go_wp2
      go_ret2
      exact ⟨rfl, g', Q1.out, Q2.out, q3⟩
end Go.Proofs.YteiifligdfnifaaDoor
