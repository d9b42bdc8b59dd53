/-
  Package lease: a keeper that knows one session at most.
-/
import Derived.Test.YtebmhjphnlgojaaLk1
import Derived.Deep.CutBlock
import Derived.Deep.RegionWith
import Derived.BigRegion
namespace Go.Proofs.Ytebmhjphnlgojaa
open Go.RowKit
set_option maxRecDepth 20000
set_option linter.unusedVariables false

/-- 'append(v, u)', one element of several cells. -/
theorem wpList_app_st {P : Program} {w0 : World} {ops : Array Oper} {rest : List Oper} {o : Oper} {a : Act} {Q : Exit → Act → World → Prop} (hgd : o.guard = Option.none) (s x : Operand) (t : TypeId)
    (ho : o.op = .call { callee := .builtin .append, args := #[s, x], argTypes := #[t, t] })
    (base : Nat) (e : TypeId) {z : Value} {size bytes : Nat} (ht : P.underlying t = some (.slice e)) (hinfo : (P.info? e).map (fun i => (i.zero, i.size, i.bytes)) = some (some z, size, bytes)) (hzs : z.cells.size = size) (hsz : 0 < size)
    (v : Value) (n : Nat) (xs : List Value) (us : Array Value) (hs : a.eval s = v) (hown : w0.ownsRow base e size v n xs)
    (hx : a.eval x = .slice (some ⟨w0.heap.size, 0, Option.none⟩) 1 1) (hl : us.toList.length = size) (hu : ∀ u ∈ us.toList, u.oneCell' = true) (hlen : (n + 1) * bytes ≤ 140737488355328) (h63 : n + 1 ≤ maxLen) (hbase : base ≤ w0.heap.size)
    (h : ∀ v' w1, w1.ownsRow base e size v' (n + 1) (xs ++ us.toList) → Below base w0 w1 → wpList P ops Q rest (a.put o.dst v') w1) :
    wpList P ops Q (o :: rest) a (w0.alloc (.cells us e)) := by
  refine wpList_app hgd s x t ho base e ht hinfo hzs hsz v n xs hs (hown.alloc _) _ 1 1 us.toList hx (by omega) (RowAt.new _ _ _ _) hu h63 hlen (by simp; omega) (by simp) ?_
  intro v' w1 ho1 hg _
  exact h v' w1 ho1 ((((Below.refl base w0).alloc hbase _).grown hg (by simp; omega) (fun k hk => (hown.lt k hk).1)))

abbrev sArr (n b : Int) (r : Value) : Array Value := #[.string ⟨#[97]⟩, .int .i64 1, .int .i64 0, .int .i64 n, .int .i64 b, .int .i64 0, r]
abbrev kArr (n b s : Int) : Array Value := #[.string ⟨#[97]⟩, .int .i64 1, .int .i64 0, .int .i64 n, .int .i64 b, .int .i64 0, .slice none 0 0, .int .i64 s]
theorem infoKn : (Try.prog.info? 79).map (fun i => (i.zero, i.size, i.bytes)) = some (some (.agg #[.string ⟨#[]⟩, .int .i64 0, .int .i64 0, .int .i64 0, .int .i64 0, .int .i64 0, .slice none 0 0, .int .i64 0]), 8, 88) := by kernel_rfl
theorem infoSe : (Try.prog.info? 51).map (fun i => (i.zero, i.size, i.bytes)) = some (some (.agg #[.string ⟨#[]⟩, .int .i64 0, .int .i64 0, .int .i64 0, .int .i64 0, .int .i64 0, .slice none 0 0]), 7, 80) := by kernel_rfl

theorem new_keeper (w : World) : Calls Try.prog 19 #[] w fun e w' => ∃ k, e = .returned (.pointer (some ⟨k, 0, none⟩)) ∧ ObjAt w' k 77 #[.int .i64 0, .slice none 0 0] ∧ Below w.heap.size w w' ∧ w.heap.size ≤ k := by
  go_enter Try.func19, Try.ntmps19
  go_wp2_with fail
  go_ret
  exact ⟨w.heap.size, rfl, ObjAt.new _ _ _, below_new _, Nat.le_refl _⟩

theorem row0 {w : World} {g : Nat} {vs : List Value} (h : RowAt w (some ⟨g, 0, none⟩) vs) (i : Nat) (v : Value) (hv : vs[i]? = some v) : w.cell? ⟨g, i, none⟩ = some v := by
  obtain ⟨b, o, e, hc⟩ := h i v hv
  simp only [Option.some.injEq, Addr.mk.injEq, and_true] at e
  obtain ⟨rfl, rfl⟩ := e
  rw [Nat.zero_add] at hc; exact hc
def DuePost (w : World) (m : Nat) (e : Ending) (w' : World) : Prop := Below w.heap.size w w' ∧ ∃ (a : Option Addr) (c : Nat), e = .returned (.slice a m c)
def dueN (n d : Int) : Nat := if n ≤ d then 1 else 0
theorem due_one (k g c : Nat) (n b s now t : Int) (w : World) (ho : ObjAt w k 77 #[.int .i64 now, .slice (some ⟨g, 0, none⟩) 1 c]) (hr : RowAt w (some ⟨g, 0, none⟩) (kArr n b s).toList) (ht : RightT t) (hs : 0 ≤ s) (hst : s ≤ t) :
    Calls Try.prog 21 #[.pointer (some ⟨k, 0, none⟩), .int .i64 t] w (DuePost w (dueN n (t - s))) := by
  have k1 := ho.cell 1 (.slice (some ⟨g, 0, none⟩) 1 c) rfl
  have HR := hid hr
  have HT := hid ht
  have ht1 := ht.1
  have ht2 := ht.2
  obtain ⟨m, hm⟩ : ∃ m, m = dueN n (t - s) := ⟨_, rfl⟩
  rw [← hm]
  have HM := hid hm
  clear ho hr ht hm
  go_enter Try.func21, Try.ntmps21
  go_wp2_with fail
  go_loopw [5, 13] (fun out i wr => (out = .slice none 0 0 ∧ i = .int .i64 0 ∧ wr = w) ∨ (i = .int .i64 1 ∧ ∃ a c', out = .slice a m c' ∧ Hid (Below w.heap.size w wr))) (fun _ i _ => 1 - (intOf i).toNat)
  case atStart => exact .inl ⟨rfl, rfl, rfl⟩
  case round =>
    clear k1
    rcases hrel with ⟨rfl, rfl, rfl⟩ | ⟨rfl, a, c', rfl, HB⟩
    · have r0 := row0 HR.out 0 (.string ⟨#[97]⟩) rfl
      have r1 := row0 HR.out 1 (.int .i64 1) rfl
      have r2 := row0 HR.out 2 (.int .i64 0) rfl
      have r3 := row0 HR.out 3 (.int .i64 n) rfl
      have r4 := row0 HR.out 4 (.int .i64 b) rfl
      have r5 := row0 HR.out 5 (.int .i64 0) rfl
      have r6 := row0 HR.out 6 (.slice none 0 0) rfl
      have r7 := row0 HR.out 7 (.int .i64 s) rfl
      go_upto_region 5 with fail
      have HX := hid (ObjAt.new wr 79 (kArr n b s))
      have HB := hid (below_new (w := wr) (.cells (kArr n b s) 79))
      clear r0 r1 r2 r3 r4 r5 r6 r7
      generalize wr.alloc (.cells (kArr n b s) 79) = w2 at *
      have hsz := HB.out.size
      generalize hxb : wr.heap.size = xb at *
      have HE := hid hxb
      clear hxb
      have x0 := HX.out.cell 0 (.string ⟨#[97]⟩) rfl
      have x1 := HX.out.cell 1 (.int .i64 1) rfl
      have x2 := HX.out.cell 2 (.int .i64 0) rfl
      have x3 := HX.out.cell 3 (.int .i64 n) rfl
      have x4 := HX.out.cell 4 (.int .i64 b) rfl
      have x5 := HX.out.cell 5 (.int .i64 0) rfl
      have x6 := HX.out.cell 6 (.slice none 0 0) rfl
      have x7 := HX.out.cell 7 (.int .i64 s) rfl
      go_wp2_with fail
      refine (right_time t _).mono ?_
      rintro e w3 ⟨rfl, rfl⟩
      have hd := decide_eq_true HT.out
      rw [hd]
      clear hd
      by_cases hn : n ≤ t - s
      · have hM : Hid (m = 1) := by show m = 1; rw [HM.out]; exact if_pos hn
        go_wp2_with (at_builtin; refine wpList_app_st rfl (.tmp 29) (.tmp 32) 55 rfl xb 51 Try.underlying55 infoSe rfl (by omega) _ 0 [] (sArr n b (.slice none 0 0)) rfl ⟨rfl, .inl ⟨rfl, rfl⟩⟩ rfl rfl (by simp [Value.oneCell']) (by omega) (by unfold maxLen; omega) hsz ?_; intro v' w4 ho4 hb4; refine Stop.mk ?_)
        refine Stop.go ?_
        obtain ⟨a4, c4, rfl, -, -⟩ := owns_row ho4
        have HB4 := hid (HB.out.trans hb4)
        clear ho4 hb4 x0 x1 x2 x3 x4 x5 x6 x7 HX
        go_wp2_with fail
        go_roundw
        case rel => exact .inr ⟨rfl, a4, c4, by rw [hM.out], by show Below wr.heap.size wr w4; rw [HE.out]; exact HB4.out⟩
        case measure => simp [intOf]
      · have hM : Hid (m = 0) := by show m = 0; rw [HM.out]; exact if_neg hn
        have hn2 : t - s < n := by omega
        go_wp2_with fail
        go_roundw
        case rel => exact .inr ⟨rfl, none, 0, by rw [hM.out], by show Below wr.heap.size wr w2; rw [HE.out]; exact HB.out⟩
        case measure => simp [intOf]
    · go_wp2_with fail
      go_ret
      exact ⟨HB.out, a, c', rfl⟩
/-- What Note leaves: the keeper at k knows just the session, with b' beats, since s'. -/
def NotePost (w : World) (k : Nat) (n b' s' t : Int) (e : Ending) (w' : World) : Prop :=
  e = .returned (.int .i64 0) ∧ ∃ g c, ObjAt w' k 77 #[.int .i64 t, .slice (some ⟨g, 0, none⟩) 1 c] ∧ w'.ownsRow w.heap.size 79 8 (.slice (some ⟨g, 0, none⟩) 1 c) 1 (kArr n b' s').toList ∧ Kept w.heap.size k w w'
def sinceN (L : Nat) (b b' s t : Int) : Int := if L = 1 ∧ b = b' then s else t
theorem sset (n b s s' : Int) : (kArr n b s).setIfInBounds 7 (.int .i64 s') = kArr n b s' := rfl
theorem rset (n b : Int) (r : Value) : (sArr n b r).setIfInBounds 6 (.slice none 0 0) = sArr n b (.slice none 0 0) := rfl
set_option maxHeartbeats 2000000 in
theorem note_any (k L c : Nat) (la : Option Addr) (n b b' s now t : Int) (a : Option Addr) (ca : Nat) (w : World) (ho : ObjAt w k 77 #[.int .i64 now, .slice la L c]) (hL : L ≤ 1) (hr : L = 1 → RowAt w la (kArr n b s).toList) (hgk : ∀ ad, la = some ad → ad.block ≠ k)
    (hb : RowAt w a (sArr n b' (.slice none 0 0)).toList) (hak : ∀ ad, a = some ad → ad.block ≠ k) (ht : RightT t) (hnt : now ≤ t) :
    Calls Try.prog 20 #[.pointer (some ⟨k, 0, none⟩), .int .i64 t, .slice a 1 ca] w (NotePost w k n b' (sinceN L b b' s t) t) := by
  have k0 := ho.cell 0 (.int .i64 now) rfl
  have f0 := ho.frozen 0
  have HO := hid ho
  have HR := hid hr
  have HBR := hid hb
  have HAK := hid hak
  have HGK := hid hgk
  have HT := hid ht
  obtain ⟨m, hm⟩ : ∃ m, m = sinceN L b b' s t := ⟨_, rfl⟩
  rw [← hm]
  have HM := hid hm
  have hkl := ho.lt
  clear ho hr ht hm hb hak hgk
  go_enter Try.func20, Try.ntmps20
  go_wp2_with fail
  refine (right_time t _).mono ?_
  rintro e w3 ⟨rfl, rfl⟩
  rw [decide_eq_true HT.out]
  have hnt2 : ¬ t < now := by omega
  go_upto_region 4 with fail
  have HO1 : Hid (ObjAt (w.setCell ⟨k, 0, none⟩ (.int .i64 t)) k 77 #[.int .i64 t, .slice la L c]) := HO.out.set 0 (.int .i64 t)
  have HK1 := hid (Kept.set (B := w.heap.size) w ⟨k, 0, none⟩ (.int .i64 t))
  have HR1 : Hid (L = 1 → RowAt (w.setCell ⟨k, 0, none⟩ (.int .i64 t)) la (kArr n b s).toList) := fun h => (HR.out h).kept HK1.out HGK.out
  have HBR1 := hid (HBR.out.kept HK1.out HAK.out)
  have hs1 : w.heap.size ≤ (w.setCell ⟨k, 0, none⟩ (.int .i64 t)).heap.size := HK1.out.size
  clear k0 f0 HO HR HBR hnt hnt2
  generalize w.setCell ⟨k, 0, none⟩ (.int .i64 t) = w1 at *
  go_wp2_with fail
  go_loopw [7, 30] (fun s7 s30 wr => (s7 = .slice none 0 0 ∧ s30 = .int .i64 0 ∧ wr = w1) ∨ (s30 = .int .i64 1 ∧ ∃ g' c', s7 = .slice (some ⟨g', 0, none⟩) 1 c' ∧ Hid (wr.ownsRow w1.heap.size 79 8 (.slice (some ⟨g', 0, none⟩) 1 c') 1 (kArr n b' m).toList) ∧ Hid (Below w1.heap.size w1 wr) ∧ w1.heap.size ≤ g')) (fun _ s30 _ => 1 - (intOf s30).toNat)
  case atStart => exact .inl ⟨rfl, rfl, rfl⟩
  case round =>
    rcases hrel with ⟨rfl, rfl, rfl⟩ | ⟨rfl, g', c', rfl, HRg, HBg, hg'⟩
    · obtain ⟨ab, ao, rfl, -⟩ := HBR1.out 0 _ rfl
      have hcell : ∀ i v, (sArr n b' (.slice none 0 0))[i]? = some v → wr.cell? ⟨ab, ao + i, none⟩ = some v := fun i v hv => by
        obtain ⟨b2, o2, e, hc⟩ := HBR1.out i v (by rw [Array.getElem?_toList]; exact hv)
        simp only [Option.some.injEq, Addr.mk.injEq, and_true] at e
        obtain ⟨rfl, rfl⟩ := e
        exact hc
      have r0 := hcell 0 (.string ⟨#[97]⟩) rfl
      have r1 := hcell 1 (.int .i64 1) rfl
      have r2 := hcell 2 (.int .i64 0) rfl
      have r3 := hcell 3 (.int .i64 n) rfl
      have r4 := hcell 4 (.int .i64 b') rfl
      have r5 := hcell 5 (.int .i64 0) rfl
      have r6 := hcell 6 (.slice none 0 0) rfl
      rw [Nat.add_zero] at r0
      clear hcell
      go_upto_region 8 with fail
      have HS2 := hid (ObjAt.new wr 51 (sArr n b' (.slice none 0 0)))
      have HB2 := hid (below_new (w := wr) (.cells (sArr n b' (.slice none 0 0)) 51))
      clear r0 r1 r2 r3 r4 r5 r6
      generalize wr.alloc (.cells (sArr n b' (.slice none 0 0)) 51) = w2 at *
      have hz2 := HS2.out.lt
      generalize hsb : wr.heap.size = sb at *
      have HSB := hid hsb
      clear hsb
      have f6 := HS2.out.frozen 6
      have y6 := HS2.out.cell 6 (.slice none 0 0) rfl
      go_upto_region 9 with fail
      have HS3 : Hid (ObjAt (w2.setCell ⟨sb, 6, none⟩ (.slice none 0 0)) sb 51 (sArr n b' (.slice none 0 0))) := HS2.out.set 6 (.slice none 0 0)
      have HB3 : Hid (Below sb wr (w2.setCell ⟨sb, 6, none⟩ (.slice none 0 0))) := HB2.out.trans ((Kept.set (B := sb) w2 ⟨sb, 6, none⟩ (.slice none 0 0)).below (Nat.le_refl _))
      have hz3 := HS3.out.lt
      clear f6 y6 HS2 HB2 hz2
      generalize w2.setCell ⟨sb, 6, none⟩ (.slice none 0 0) = w3 at *
      have x0 := HS3.out.cell 0 (.string ⟨#[97]⟩) rfl
      have x1 := HS3.out.cell 1 (.int .i64 1) rfl
      have x2 := HS3.out.cell 2 (.int .i64 0) rfl
      have x3 := HS3.out.cell 3 (.int .i64 n) rfl
      have x4 := HS3.out.cell 4 (.int .i64 b') rfl
      have x5 := HS3.out.cell 5 (.int .i64 0) rfl
      have x6 := HS3.out.cell 6 (.slice none 0 0) rfl
      go_upto_region 10 with fail
      have HX4 := hid (ObjAt.new w3 79 (kArr n b' t))
      have hb4 := below_new (w := w3) (.cells (kArr n b' t) 79)
      have HS4 := hid (HS3.out.below hb4)
      have HB4 := hid (HB3.out.trans (hb4.mono (by omega)))
      clear x0 x1 x2 x3 x4 x5 x6 hb4 HB3
      generalize w3.alloc (.cells (kArr n b' t) 79) = w4 at *
      have hz4 := HX4.out.lt
      generalize hxb : w3.heap.size = xb at *
      have hsx : sb < xb := hz3
      clear hxb HS3 hz3
      have HO4 := hid (HO1.out.below (HB4.out.mono (by have := HSB.out; omega)))
      have k1 := HO4.out.cell 1 (.slice la L c) rfl
      have hz5 : sb ≤ w4.heap.size := by omega
      go_wp2_with fail
      generalize hwr : wr = wo at *
      have HWO := hid hwr
      clear hwr
      go_loopw [43] (fun s43 wz => ∃ (j : Nat) (σ : Int), s43 = .int .i64 j ∧ j ≤ L ∧ Hid (j = 0 → σ = t) ∧ Hid (j = 1 → σ = m) ∧ Hid (ObjAt wz xb 79 (kArr n b' σ)) ∧ Hid (ObjAt wz sb 51 (sArr n b' (.slice none 0 0))) ∧ Hid (Below sb wo wz) ∧ sb ≤ wz.heap.size) (fun s43 _ => L - (intOf s43).toNat)
      case atStart => exact ⟨0, t, rfl, Nat.zero_le _, fun _ => rfl, fun h => absurd h (by decide), HX4.out, HS4.out, HB4.out, hz5⟩
      case round =>
        clear HX4 HS4 HB4 k1
        obtain ⟨j, σ, rfl, hj, HJ0, HJ1, HX, HS, HB, hzz⟩ := hrel
        by_cases hlt : j < L
        · have hj0 : j = 0 := by omega
          have hL1 : L = 1 := by omega
          subst hj0
          have hσ : Hid (σ = t) := HJ0.out rfl
          have HRw := hid ((HR1.out hL1).below (HB.out.mono (by have := HSB.out; omega)))
          obtain ⟨gb, go, rfl, -⟩ := HRw.out 0 _ rfl
          have hcell : ∀ i v, (kArr n b s)[i]? = some v → wr.cell? ⟨gb, go + i, none⟩ = some v := fun i v hv => by
            obtain ⟨b2, o2, e, hc⟩ := HRw.out i v (by rw [Array.getElem?_toList]; exact hv)
            simp only [Option.some.injEq, Addr.mk.injEq, and_true] at e
            obtain ⟨rfl, rfl⟩ := e
            exact hc
          have r0 := hcell 0 (.string ⟨#[97]⟩) rfl
          have r1 := hcell 1 (.int .i64 1) rfl
          have r2 := hcell 2 (.int .i64 0) rfl
          have r3 := hcell 3 (.int .i64 n) rfl
          have r4 := hcell 4 (.int .i64 b) rfl
          have r5 := hcell 5 (.int .i64 0) rfl
          have r6 := hcell 6 (.slice none 0 0) rfl
          have r7 := hcell 7 (.int .i64 s) rfl
          rw [Nat.add_zero] at r0
          clear hcell HJ0 HJ1
          have hlti : (0 : Int) < (L : Int) := by omega
          go_upto_region 13 with fail
          have hbn := below_new (w := wr) (.cells (kArr n b s) 79)
          have HZ := hid (ObjAt.new wr 79 (kArr n b s))
          have HX6 := hid (HX.out.below hbn)
          have HS6 := hid (HS.out.below hbn)
          have HB6 := hid (HB.out.trans (hbn.mono hzz))
          have hz6 := Nat.le_trans hzz hbn.size
          clear r0 r1 r2 r3 r4 r5 r6 r7 hbn HX HS HB
          generalize wr.alloc (.cells (kArr n b s) 79) = w6 at *
          generalize wr.heap.size = zb at *
          have z0 := HZ.out.cell 0 (.string ⟨#[97]⟩) rfl
          have z1 := HZ.out.cell 1 (.int .i64 1) rfl
          have z4 := HZ.out.cell 4 (.int .i64 b) rfl
          have z7 := HZ.out.cell 7 (.int .i64 s) rfl
          have y0 := HS6.out.cell 0 (.string ⟨#[97]⟩) rfl
          have y1 := HS6.out.cell 1 (.int .i64 1) rfl
          have y4 := HS6.out.cell 4 (.int .i64 b') rfl
          have x7 := HX6.out.cell 7 (.int .i64 σ) rfl
          have g7 := HX6.out.frozen 7
          by_cases hbb : b = b'
          · have HMS : Hid (s = m) := by show s = m; rw [HM.out]; unfold sinceN; rw [if_pos ⟨hL1, hbb⟩]
            have hb1 : (b == b') = true := by rw [hbb]; exact beq_self_eq_true _
            clear hbb
            have HX7 : Hid (ObjAt (w6.setCell ⟨xb, 7, none⟩ (.int .i64 s)) xb 79 (kArr n b' s)) := HX6.out.set 7 (.int .i64 s)
            have HK7 := Kept.set (B := w6.heap.size) w6 ⟨xb, 7, none⟩ (.int .i64 s)
            have HS7 := hid (HS6.out.kept HK7 (by show sb ≠ xb; omega))
            have HB7 := hid (HB6.out.trans ((HK7.mono hz6).below (by show sb ≤ xb; omega)))
            have hz7 := Nat.le_trans hz6 HK7.size
            clear HK7
            go_wp2_with fail
            go_roundw
            case rel => exact ⟨1, s, by go_num, by omega, fun h => absurd h (by decide), fun _ => HMS.out, HX7.out, HS7.out, HB7.out, hz7⟩
            case measure => simp [intOf]; omega
          · have HMS : Hid (σ = m) := by show σ = m; rw [HM.out, hσ.out]; unfold sinceN; rw [if_neg (fun h => hbb h.2)]
            have hb1 : (b == b') = false := beq_eq_false_iff_ne.2 hbb
            clear hbb
            go_wp2_with fail
            go_roundw
            case rel => exact ⟨1, σ, by go_num, by omega, fun h => absurd h (by decide), fun _ => HMS.out, HX6.out, HS6.out, HB6.out, hz6⟩
            case measure => simp [intOf]; omega
        · have hjl : j = L := by omega
          have HSG : Hid (σ = m) := by
            show _ = _
            by_cases h0 : j = 0
            · rw [HJ0.out h0, HM.out]; unfold sinceN; rw [if_neg (by omega)]
            · exact HJ1.out (by omega)
          clear HJ0 HJ1
          have x0 := HX.out.cell 0 (.string ⟨#[97]⟩) rfl
          have x1 := HX.out.cell 1 (.int .i64 1) rfl
          have x2 := HX.out.cell 2 (.int .i64 0) rfl
          have x3 := HX.out.cell 3 (.int .i64 n) rfl
          have x4 := HX.out.cell 4 (.int .i64 b') rfl
          have x5 := HX.out.cell 5 (.int .i64 0) rfl
          have x6 := HX.out.cell 6 (.slice none 0 0) rfl
          have x7 := HX.out.cell 7 (.int .i64 σ) rfl
          go_wp2_with fail
          refine (delete_nil _ wr).mono ?_
          rintro e w7 ⟨rfl, rfl⟩
          go_wp2_with (at_builtin; refine wpList_app_st rfl (.tmp 68) (.tmp 70) 75 rfl wr.heap.size 79 Try.underlying75 infoKn rfl (by omega) _ 0 [] (kArr n b' σ) rfl ⟨rfl, .inl ⟨rfl, rfl⟩⟩ rfl rfl (by simp [Value.oneCell']) (by omega) (by unfold maxLen; omega) (Nat.le_refl _) ?_; intro v' w8 ho8 hb8; refine Stop.mk ?_)
          refine Stop.go ?_
          obtain ⟨a8, c8, rfl, hr8, -, -⟩ := owns_row ho8
          obtain ⟨g8, rfl, hg8, -⟩ := own_some ho8 (by omega)
          have HR8 : Hid (w8.ownsRow wo.heap.size 79 8 (.slice (some ⟨g8, 0, none⟩) 1 c8) 1 (kArr n b' m).toList) := by
            show World.ownsRow _ _ _ _ _ _ _
            rw [← HSG.out]; exact owns_base ho8 (by have := HSB.out; omega)
          have HB8 : Hid (Below wo.heap.size wo w8) := by
            show Below _ _ _
            rw [HSB.out]; exact HB.out.trans (hb8.mono hzz)
          have hg9 : wo.heap.size ≤ g8 := by have := HSB.out; omega
          clear ho8 hb8 hr8 x0 x1 x2 x3 x4 x5 x6 x7 HX HS HB
          go_wp2_with fail
          go_roundw
          case rel => exact .inr ⟨rfl, g8, c8, rfl, by rw [HWO.out]; exact HR8, by rw [HWO.out]; exact HB8, by rw [HWO.out]; exact hg9⟩
          case measure => simp [intOf]
    · have HOg := hid (HO1.out.below HBg.out)
      have k1 := HOg.out.cell 1 (.slice la L c) rfl
      have fk := HOg.out.frozen 1
      have hkw := HOg.out.lt
      go_wp2_with fail
      refine (sort_one _ _ _ _).mono ?_
      rintro e w9 ⟨rfl, rfl⟩
      have HKF := hid (HK1.out.trans ((Kept.of_below (HBg.out.mono hs1)).trans ((Kept.set (B := w.heap.size) wr ⟨k, 1, none⟩ (.slice (some ⟨g', 0, none⟩) 1 c')))))
      have HOF : Hid (ObjAt (wr.setCell ⟨k, 1, none⟩ (.slice (some ⟨g', 0, none⟩) 1 c')) k 77 #[.int .i64 t, .slice (some ⟨g', 0, none⟩) 1 c']) := HOg.out.set 1 (.slice (some ⟨g', 0, none⟩) 1 c')
      have HRF := hid (owns_base (own_keptS HRg.out (KeptS.set (S := fun q => q = k) wr ⟨k, 1, none⟩ (.slice (some ⟨g', 0, none⟩) 1 c') rfl) (fun g e => by cases e; show ¬ g' = k; omega)) hs1)
      have hgw : w.heap.size ≤ g' := by omega
      go_wp2_with fail
      go_ret
      exact ⟨rfl, g', c', HOF.out, HRF.out, HKF.out⟩
end Go.Proofs.Ytebmhjphnlgojaa
