/-
  Others, with the block in which they lie.
-/
import Derived.Test.YtmhlckicjojmoaaRecQ4
namespace Go.Proofs.Ytmhlckicjojmoaa
open Go.RowKit
set_option maxRecDepth 20000
set_option linter.unusedVariables false

theorem ObjAt.sets {b : Nat} {t : TypeId} (vs : List Value) : ∀ (o : Nat) {w : World} {cs : Array Value}, ObjAt w b t cs → ∃ cs', ObjAt (w.setCells b o vs) b t cs' ∧ cs'.size = cs.size ∧ ∀ m, m < o → cs'[m]? = cs[m]? := by
  induction vs with
  | nil => intro o w cs h; exact ⟨cs, h, rfl, fun _ _ => rfl⟩
  | cons v vs ih =>
    intro o w cs h
    obtain ⟨cs', h1, h2, h3⟩ := ih (o + 1) (h.set o v)
    exact ⟨cs', h1, by rw [h2]; simp, fun m hm => by rw [h3 m (by omega), Array.getElem?_setIfInBounds_ne (by omega)]⟩
def DelPost (rb cap : Nat) (fl : List Int) (w : World) (e : Ending) (w' : World) : Prop :=
  ∃ cu, e = .returned (.slice (some ⟨rb, 0, none⟩) fl.length cap) ∧ ObjAt w' rb 3 cu ∧ Cells cu fl ∧ fl.length ≤ cap ∧ Below rb w w'
def OthPost (fl : List Int) (w : World) (e : Ending) (w' : World) : Prop :=
  ∃ g cap cu, e = .returned (.slice (some ⟨g, 0, none⟩) fl.length cap) ∧ ObjAt w' g 3 cu ∧ Cells cu fl ∧ fl.length ≤ cap ∧ cap ≤ maxLen ∧ w.heap.size ≤ g ∧ Below w.heap.size w w'

theorem del_funcO2 (bv : Value) (p : Int → Bool) (rb cap : Nat) (l : List Int) (w : World) (cur : Array Value) (ho : ObjAt w rb 3 cur) (hs : l.length ≤ cur.size) (hc : ∀ (m : Nat) (hm : m < l.length), cur[m]? = some (.int .i64 l[m]))
    (hm : l.length ≤ 1000) (hcap : l.length ≤ cap ∧ cap ≤ maxLen) (hp : ∀ x w', Below rb w w' → Calls Try.prog 32 #[.int .i64 x, bv] w' fun e w'' => e = .returned (.bool (p x)) ∧ w' = w'') :
    Calls Try.prog 31 #[.slice (some ⟨rb, 0, none⟩) l.length cap, .func (.func 32) #[] #[bv]] w (DelPost rb cap (l.filter fun x => !p x) w) := by
  have HO := hid ho
  have HC := hid hc
  have HS := hid hs
  have HP := hid hp
  have hrow : RowAt w (some ⟨rb, 0, none⟩) (l.map (Value.int .i64)) := fun j v hv => by
    obtain ⟨hj, e⟩ := List.getElem?_eq_some_iff.1 hv
    simp only [List.length_map] at hj
    simp only [List.getElem_map] at e
    exact ⟨rb, 0, rfl, by rw [Nat.zero_add]; exact ho.cell j v (by rw [hc j hj, e])⟩
  have hidx := index_funcO bv p (some ⟨rb, 0, none⟩) cap l w hrow (by omega) (fun x => hp x w (Below.refl _ _))
  obtain ⟨hcap1, hcap2⟩ := hcap
  clear ho hc hs hp hrow
  go_enter Try.func31, Try.ntmps31
  go_wp2_with fail
  refine hidx.mono ?_
  rintro e w1 ⟨rfl, rfl⟩
  clear hidx
  rcases idxP_cases p l with ⟨h1, h2⟩ | ⟨k, hk, h1, h2, h3⟩
  · rw [h1]
    have HF : Hid ((l.filter fun x => !p x) = l) := List.filter_eq_self.2 (fun x hx => by rw [h2 x hx]; rfl)
    clear h1 h2
    go_wp2_with fail
    go_ret
    exact ⟨cur, by rw [HF.out]; rfl, HO.out, by rw [HF.out]; exact ⟨HS.out, HC.out⟩, by rw [HF.out]; exact hcap1, Below.refl _ _⟩
  · rw [h1]
    have HI := hid (DelInv.start hk h2 h3 HS.out HC.out)
    have e1 : ((k : Int) == -1) = false := beq_eq_false_iff_ne.2 (by omega)
    clear h1 h2 h3 HC HS
    go_wp2_with fail
    clear e1
    go_loopw [5, 6] (fun s5 s6 wr => ∃ (i j : Nat) (cu : Array Value), s5 = .int .i64 i ∧ s6 = .int .i64 j ∧ j ≤ l.length ∧ i < j ∧ Hid (DelInv p l i j cu) ∧ Hid (ObjAt wr rb 3 cu) ∧ Hid (Below rb w wr)) (fun _ s6 _ => l.length - (intOf s6).toNat)
    case atStart => exact ⟨k, k + 1, cur, rfl, by go_num, by omega, by omega, HI, HO, Below.refl _ _⟩
    case round =>
      clear HI HO
      obtain ⟨i, j, cu, rfl, rfl, hj, hij, HI, HO, HB⟩ := hrel
      have hsz := HI.out.size
      by_cases hlt : j < l.length
      · have cj := ObjAt.cell HO.out j (.int .i64 l[j]) (HI.out.high j hlt (Nat.le_refl _))
        have ci := ObjAt.cell HO.out i cu[i] (by rw [Array.getElem?_eq_getElem (by omega)])
        have fi := ObjAt.frozen HO.out i
        have H1 := hid (fun e : p l[j] = true => HI.out.drop hlt e)
        have H2 := hid (fun e : p l[j] = false => HI.out.keep hlt e)
        generalize cu[i] = old at *
        generalize l[j] = x at *
        have hcall := HP.out x wr HB.out
        cases hx : p x with
        | true =>
          rw [hx] at hcall
          have HX := hid (H1.out hx)
          clear hx H1 H2 HI HP
          go_wp2_with fail
          refine hcall.mono ?_
          rintro e w' ⟨rfl, rfl⟩
          go_wp2_with fail
          go_roundw
          case rel => exact ⟨i, j + 1, cu, rfl, by go_num, by omega, by omega, HX, HO, HB⟩
          case measure => simp [intOf]; omega
        | false =>
          rw [hx] at hcall
          have HX := hid (H2.out hx)
          have HO2 := hid (ObjAt.set HO.out i (.int .i64 x))
          have HB2 := hid (HB.out.trans ((Kept.set (B := rb) wr ⟨rb, i, none⟩ (.int .i64 x)).below (Nat.le_refl _)))
          clear hx H1 H2 HI HP
          go_wp2_with fail
          refine hcall.mono ?_
          rintro e w' ⟨rfl, rfl⟩
          go_wp2_with fail
          go_roundw
          case rel => exact ⟨i + 1, j + 1, _, by go_num, by go_num, by omega, by omega, HX, HO2, HB2⟩
          case measure => simp [intOf]; omega
      · obtain rfl : j = l.length := by omega
        have hcl : ∀ ty, (Builtin.clear_ #[22] ty #[.slice (some ⟨rb, i, none⟩) (l.length - i) (cap - i)]).run Try.prog wr = .ok (.tuple #[]) (wr.setCells rb i (List.replicate (l.length - i) (.int .i64 0))) :=
          fun ty => Lib.run_clear_slice wr _ _ ty _ Try.underlying22 (fun w => by kernel_rfl) rfl rfl rb i _ _ (by omega) (fun t ht => by rw [HO.out.cell (i + t) cu[i + t] (by rw [Array.getElem?_eq_getElem (by omega)])]; rfl) (fun t ht => HO.out.frozen (i + t))
        have HCUT : Hid (i = (l.filter fun x => !p x).length ∧ ∀ (m : Nat), m < i → cu[m]? = ((l.filter fun x => !p x)[m]?).map (Value.int .i64)) := by
          have h1 := HI.out.cnt
          have h2 := HI.out.low
          rw [List.take_length] at h1 h2
          exact ⟨h1, h2⟩
        clear HP HI
        go_wp2_with fail
        go_ret
        obtain ⟨cu2, k1, k2, k3⟩ := ObjAt.sets (List.replicate (l.length - i) (.int .i64 0)) i HO.out
        refine ⟨cu2, by rw [← HCUT.out.1]; rfl, k1, ⟨by rw [k2, ← HCUT.out.1]; omega, fun m hm => ?_⟩, by rw [← HCUT.out.1]; omega, HB.out.trans (below_sets (Nat.le_refl _) _ _ _)⟩
        rw [k3 m (by rw [HCUT.out.1]; exact hm), HCUT.out.2 m (by rw [HCUT.out.1]; exact hm), List.getElem?_eq_getElem hm]; rfl

set_option maxHeartbeats 1000000 in
theorem mem_others2 (a : Option Addr) (c : Nat) (l : List Int) (me : Int) (w : World) (hr : RowAt w a (l.map (Value.int .i64))) (h0 : a = none → c = 0) (hl : RightM l) :
    Calls Try.prog 18 #[.slice a l.length c, .int .i64 me] w (OthPost (l.filter fun x => !(x == me)) w) := by
  have HR := hid hr
  have hl1 := hl.2.1
  have hl7 := hl.2.2
  clear hr hl
  go_enter Try.func18, Try.ntmps18
  go_wp2_with fail
  have HK := hid (ObjAt.new w 3 #[.int .i64 me])
  have HB := hid (below_new (w := w) (.cells #[.int .i64 me] 3))
  have HR1 := hid (HR.out.below HB.out)
  clear HR
  refine (mem_members a c l _ HR1.out h0 (by omega)).mono ?_
  rintro e w1 ⟨v, rfl, ho, hb⟩
  have HK1 := hid (HK.out.below hb)
  have HB1 := hid (below_step HB.out HB.out.size hb)
  obtain ⟨g, cap, cur, rfl, q1, q2, q3, q4, q5, q6⟩ := own_obj ho hl1
  have HQ1 := hid q1
  have HQ4 := hid q4
  have hmb : w.heap.size < g := by simp at q2; omega
  clear HK HB HR1 hb ho q1 q4 q2
  generalize hn : w.heap.size = mb at *
  go_wp2_with fail
  refine (del_funcO2 (.pointer (some ⟨mb, 0, none⟩)) (fun x => x == me) g cap l w1 cur HQ1.out q3 HQ4.out (by omega) ⟨q5, q6⟩ (fun x w' hb => oth_pred mb me x w' ((hb.cell (p := ⟨mb, 0, none⟩) hmb).trans (HK1.out.cell 0 _ rfl)))).mono ?_
  rintro e w2 ⟨cu, rfl, hv, hc, hcp, hb2⟩
  have HV := hid hv
  have HC := hid hc
  have HB2 := hid (HB1.out.trans (hb2.mono (by omega)))
  clear hv hb2 HB1 hc
  go_wp2_with fail
  go_ret
  exact ⟨g, cap, cu, rfl, HV.out, HC.out, hcp, q6, by omega, by rw [hn]; exact HB2.out⟩

end Go.Proofs.Ytmhlckicjojmoaa
