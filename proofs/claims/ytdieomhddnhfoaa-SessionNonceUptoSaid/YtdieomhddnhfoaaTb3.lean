/-
  Renew.
-/
import Derived.Test.YtdieomhddnhfoaaTb2
import Derived.BigRegion
import Derived.Deep.Cut
namespace Go.Proofs.Ytdieomhddnhfoaa
open Go.RowKit
set_option maxRecDepth 20000
set_option linter.unusedVariables false

def kC (k : List UInt8 × Int) : List Value := [tkey k.1, .int .i64 k.2]
theorem row_k {w : World} {a : Option Addr} {ks : List (List UInt8 × Int)} (h : RowAt w a (ks.flatMap kC)) {j : Nat} (hj : j < ks.length) : ∃ b o, a = some ⟨b, o, none⟩ ∧ w.cell? ⟨b, o + j * 2, none⟩ = some (tkey ks[j].1) ∧ w.cell? ⟨b, o + j * 2 + 1, none⟩ = some (.int .i64 ks[j].2) := by
  have get : ∀ (l : List (List UInt8 × Int)) (j i : Nat) (hj : j < l.length), i < 2 → (l.flatMap kC)[j * 2 + i]? = (kC l[j])[i]? := by
    intro l
    induction l with
    | nil => intro j i hj; simp at hj
    | cons x l ih =>
      intro j i hj hi
      have hl : (kC x).length = 2 := rfl
      rw [List.flatMap_cons]
      cases j with
      | zero => rw [List.getElem?_append_left (by rw [hl]; omega)]; simp
      | succ j =>
        rw [List.getElem?_append_right (by rw [hl]; omega), hl, show (j + 1) * 2 + i - 2 = j * 2 + i by omega, ih j i (by simpa using hj) hi]
        rfl
  obtain ⟨b, o, rfl, h0⟩ := h (j * 2 + 0) _ (by rw [get ks j 0 hj (by omega)]; rfl)
  obtain ⟨b', o', e, h1⟩ := h (j * 2 + 1) _ (by rw [get ks j 1 hj (by omega)]; rfl)
  simp only [Option.some.injEq, Addr.mk.injEq, and_true] at e
  obtain ⟨rfl, rfl⟩ := e
  exact ⟨b, o, rfl, h0, by rw [Nat.add_assoc]; exact h1⟩
/-- There is such a session. -/
def Fnd (H : List Hs) (k : List UInt8 × Int) : Prop := ∃ h s, seekH H k.1 = some h ∧ seekS h.live k.2 = some s
theorem seekH_of {H : List Hs} (hn : (H.map Hs.nm).Nodup) {h : Hs} (hh : h ∈ H) : seekH H h.nm = some h := by
  cases e : seekH H h.nm with
  | none => exact absurd rfl (seekH_none e h hh)
  | some x =>
    obtain ⟨h1, h2⟩ := seekH_some e
    rw [nodup_inj hn h1 hh h2]
theorem seekS_of {l : List Sn} (hn : (l.map Sn.n).Nodup) {s : Sn} (hs : s ∈ l) : seekS l s.n = some s := by
  cases e : seekS l s.n with
  | none => exact absurd rfl (seekS_none e s hs)
  | some x =>
    obtain ⟨h1, h2⟩ := seekS_some e
    rw [nodup_inj hn h1 hs h2]
/-- One session changed. -/
def setS (l : List Sn) (s : Sn) : List Sn := l.map fun y => if y.n = s.n then s else y
theorem setS_map {β : Type} (f : Sn → β) {l : List Sn} {s s' : Sn} (hn : (l.map Sn.n).Nodup) (hs : s ∈ l) (en : s'.n = s.n) (ef : f s' = f s) : (setS l s').map f = l.map f := by
  unfold setS
  rw [List.map_map]
  refine List.map_congr_left fun y hy => ?_
  show f (if y.n = s'.n then _ else y) = f y
  split
  · rename_i e
    rw [nodup_inj hn hy hs (e.trans en), ef]
  · rfl
/-- What a beat leaves as it was. -/
def abk (H : List Hs) : List (List UInt8 × Int × List (Int × Int × Value)) := H.map fun h => (h.nm, h.last, h.live.map pr)
theorem Sub.of_abk : ∀ {H H' : List Hs}, abk H' = abk H → Sub H H'
  | [], [], _ => trivial
  | h :: H, h' :: H', e => by
    unfold abk at e
    simp only [List.map_cons, List.cons.injEq, Prod.mk.injEq] at e
    obtain ⟨⟨e1, e2, e3⟩, e4⟩ := e
    exact ⟨⟨e1, e2, by rw [e3]; exact List.Sublist.refl _⟩, Sub.of_abk e4⟩
  | [], _ :: _, e => by simp [abk] at e
  | _ :: _, [], e => by simp [abk] at e
theorem Fnd.abk {w w' : World} {bt mh : Nat} {H H' : List Hs} {k : List UInt8 × Int} (ht : TabT w bt mh H) (ht' : TabT w' bt mh H') (e : abk H' = abk H) (h : Fnd H k) : Fnd H' k := by
  obtain ⟨x, s, h1, h2⟩ := h
  obtain ⟨m1, m2⟩ := seekH_some h1
  obtain ⟨m3, m4⟩ := seekS_some h2
  have hm : (x.nm, x.last, x.live.map pr) ∈ Go.Proofs.Ytdieomhddnhfoaa.abk H' := by rw [e]; exact List.mem_map.2 ⟨x, m1, rfl⟩
  obtain ⟨y, hy, ey⟩ := List.mem_map.1 hm
  simp only [Prod.mk.injEq] at ey
  obtain ⟨e1, e2, e3⟩ := ey
  have hp : pr s ∈ y.live.map pr := by rw [e3]; exact List.mem_map.2 ⟨s, m3, rfl⟩
  obtain ⟨t, ht1, et⟩ := List.mem_map.1 hp
  simp only [pr, Prod.mk.injEq] at et
  refine ⟨y, t, ?_, ?_⟩
  · rw [← m2, ← e1]; exact seekH_of ht'.names hy
  · rw [← m4, ← et.1]; exact seekS_of (ht'.hs y hy).nums ht1
theorem TabT.beat {w : World} {bt mh : Nat} {H : List Hs} {x : Hs} {s : Sn} (h : TabT w bt mh H) (hx : x ∈ H) (hs : s ∈ x.live) (b : Int) :
    ∃ H', TabT (w.setCell ⟨s.bs, 4, none⟩ (.int .i64 b)) bt mh H' ∧ MovedT w (w.setCell ⟨s.bs, 4, none⟩ (.int .i64 b)) bt mh H H' ∧ abk H' = abk H := by
  have ax := h.hs x hx
  have ho := ax.kid s hs
  have hk : Kept w.heap.size s.bs w (w.setCell ⟨s.bs, 4, none⟩ (.int .i64 b)) := Kept.set w ⟨s.bs, 4, none⟩ (.int .i64 b)
  have hK : KeptS (HsHas x) w (w.setCell ⟨s.bs, 4, none⟩ (.int .i64 b)) := KeptS.of_kept hk (.inr (.inr ⟨s, hs, rfl⟩))
  have e1 : (setS x.live { s with beats := b }).map sEnt = x.live.map sEnt := setS_map sEnt ax.nums hs rfl rfl
  have e2 : (setS x.live { s with beats := b }).map pr = x.live.map pr := setS_map pr ax.nums hs rfl rfl
  have mem : ∀ y ∈ setS x.live { s with beats := b }, ∃ z ∈ x.live, y.bs = z.bs ∧ y.n = z.n ∧ (z.n = s.n ∧ y = { s with beats := b } ∨ z.n ≠ s.n ∧ y = z) := by
    intro y hy
    obtain ⟨z, hz, rfl⟩ := List.mem_map.1 hy
    by_cases e : z.n = s.n
    · refine ⟨z, hz, ?_⟩
      rw [if_pos e]
      have := nodup_inj ax.nums hz hs e
      subst this
      exact ⟨rfl, rfl, .inl ⟨rfl, rfl⟩⟩
    · refine ⟨z, hz, ?_⟩
      rw [if_neg e]
      exact ⟨rfl, rfl, .inr ⟨e, rfl⟩⟩
  refine ⟨Go.Proofs.Ytdieomhddnhfoaa.setH H { x with live := setS x.live { s with beats := b } }, h.putH hx rfl rfl rfl ⟨ax.obj.kept hk (ax.obj.ne_obj ho house_ne_sess), by rw [e1]; exact ax.live.kept hk (ho.ne_map ax.live).symm, fun y hy => ?_, fun y hy => ?_, ax.lst, ax.len⟩ hK, ⟨setH_has hx fun k => ?_, hK.imp fun k e => .inr (.inr ⟨x, hx, e⟩)⟩, ?_⟩
  · obtain ⟨z, hz, -, -, ⟨e, rfl⟩ | ⟨e, rfl⟩⟩ := mem y hy
    · exact ho.set 4 (.int .i64 b)
    · exact (ax.kid y hz).kept hk fun q => e (by rw [ax.inj_kid hz hs q])
  · obtain ⟨z, hz, -, e, -⟩ := mem y hy
    show 1 ≤ y.n ∧ y.n ≤ x.last
    rw [e]; exact ax.rng z hz
  · rintro (e | e | ⟨y, hy, e⟩)
    · exact .inl (.inl e)
    · exact .inl (.inr (.inl e))
    · obtain ⟨z, hz, e', -⟩ := mem y hy
      exact .inl (.inr (.inr ⟨z, hz, e.trans e'⟩))
  · unfold Go.Proofs.Ytdieomhddnhfoaa.abk
    exact setH_map _ h.names hx rfl (by simp only [e2])

set_option maxHeartbeats 4000000 in
theorem tab_renew (bt mh : Nat) (H : List Hs) (a : Option Addr) (ks : List (List UInt8 × Int)) (cap : Nat) (w : World) (h : TabT w bt mh H) (hr : RowAt w a (ks.flatMap kC)) (hm : ks.length ≤ 140737488355328) (hn : ∀ ad, a = some ad → ks ≠ [] → ¬ TabHas bt mh H ad.block) :
    Calls Try.prog 14 #[.pointer (some ⟨bt, 0, none⟩), .slice a ks.length cap] w fun e w' => (∃ er, e = .returned (.int .i64 er)) ∧ LessP w bt mh H w' := by
  have HH := hid h
  have HR := hid hr
  have HN := hid hn
  clear h hr hn
  go_enter Try.func14, Try.ntmps14
  go_wp2_with fail
  go_loopw [13] (fun s wr => ∃ j : Nat, s = .int .i64 j ∧ j ≤ ks.length ∧ Hid (Below w.heap.size w wr) ∧ Hid (∀ i (hi : i < ks.length), i < j → Fnd H ks[i])) (fun s _ => ks.length - (intOf s).toNat)
  case atStart => exact ⟨0, rfl, Nat.zero_le _, Below.refl _ _, fun i hi h => by omega⟩
  case round =>
    obtain ⟨j, rfl, hj, HB, HF⟩ := hrel
    have HT := hid (HH.out.below HB.out)
    have HRw := hid (HR.out.below HB.out)
    by_cases hlt : j < ks.length
    · obtain ⟨b, o, rfl, k0, k1⟩ := row_k HRw.out hlt
      have HKE : Hid (ks[j] = (ks[j].1, ks[j].2)) := rfl
      generalize hnm : ks[j].1 = nm at k0 HKE
      generalize hno : ks[j].2 = n at k1 HKE
      clear hnm hno HRw
      go_wp2_with fail
      have HB2 := hid (HB.out.alloc HB.out.size (.cells #[tkey nm, .int .i64 n] 30))
      have HT2 := hid (HT.out.below (below_new (.cells #[tkey nm, .int .i64 n] 30)))
      refine (tab_find bt mh H nm n _ HT2.out).mono ?_
      rintro e w1 ⟨hf, hb⟩
      have HB3 := hid (below_step HB2.out HB2.out.size hb)
      clear HT2 HB2 hb k0 k1 HT HB
      rcases hf with ⟨x, s, hx, hs, rfl⟩ | ⟨-, rfl | rfl⟩
      · have HF2 : Hid (∀ i (hi : i < ks.length), i < j + 1 → Fnd H ks[i]) := fun i hi h => by
          by_cases e : i = j
          · subst e
            rw [HKE.out]; exact ⟨x, s, hx, hs⟩
          · exact HF.out i hi (by omega)
        clear hx hs HF HKE
        go_wp2_with fail
        go_roundw
        case rel => exact ⟨j + 1, by go_num, by omega, HB3, HF2⟩
        case measure => simp [intOf]; omega
      · clear HF HKE
        go_wp2_with fail
        go_ret
        exact ⟨⟨_, rfl⟩, LessP.below HH.out HB3.out⟩
      · clear HF HKE
        go_wp2_with fail
        go_ret
        exact ⟨⟨_, rfl⟩, LessP.below HH.out HB3.out⟩
    · have HFF : Hid (∀ i (hi : i < ks.length), Fnd H ks[i]) := fun i hi => HF.out i hi (by omega)
      clear HF
      have HM0 := hid (MovedT.below (bt := bt) (mh := mh) (H := H) HB.out)
      clear HRw HB hj
      go_wp2_with fail
      clear hlt
      go_loopw [29] (fun s wx => ∃ (j : Nat) (H' : List Hs), s = .int .i64 j ∧ j ≤ ks.length ∧ Hid (TabT wx bt mh H') ∧ Hid (MovedT w wx bt mh H H') ∧ Hid (abk H' = abk H)) (fun s _ => ks.length - (intOf s).toNat)
      case atStart => exact ⟨0, H, rfl, Nat.zero_le _, HT, HM0, rfl⟩
      case round =>
        clear HT HM0
        obtain ⟨j, H', rfl, hj, HT, HM, HE⟩ := hrel
        by_cases hlt : j < ks.length
        · have HRw := hid (HR.out.keptS HM.out.2 (fun ad e => HN.out ad e (by intro q; rw [q] at hlt; simp at hlt)))
          obtain ⟨b, o, rfl, k0, k1⟩ := row_k HRw.out hlt
          obtain ⟨x, s, hx, hs⟩ := Fnd.abk HH.out HT.out HE.out (HFF.out j hlt)
          generalize ks[j] = kk at *
          obtain ⟨nm, n⟩ := kk
          dsimp only at k0 k1 hx hs
          have HX := hid (seekH_some hx)
          have HSS := hid (seekS_some hs)
          clear HRw
          go_upto_region 11 with fail
          have hbn := below_new (w := wr) (.cells #[tkey nm, .int .i64 n] 30)
          have HK := hid (ObjAt.new wr 30 #[tkey nm, .int .i64 n])
          have HT2 := hid (HT.out.below hbn)
          have HM2 := hid (HM.out.trans (MovedT.below hbn))
          clear k0 k1 hbn HT HM
          generalize wr.alloc (.cells #[tkey nm, .int .i64 n] 30) = W at HK HT2 HM2 ⊢
          generalize wr.heap.size = kb at HK ⊢
          have HA := hid (HT2.out.hs x HX.out.1)
          have HSA := hid (HA.out.kid s HSS.out.1)
          have c0 := ObjAt.cell HT2.out.tab 0 (.map (some mh)) rfl
          have k0 := ObjAt.cell HK.out 0 (tkey nm) rfl
          have k1 := ObjAt.cell HK.out 1 (.int .i64 n) rfl
          have h1 := ObjAt.cell HA.out.obj 1 (.map (some x.ml)) rfl
          have s4 := ObjAt.cell HSA.out 4 (.int .i64 s.beats) rfl
          have f4 := ObjAt.frozen HSA.out 4
          have l0 := run_look (w := W.drew) Try.underlying54 keyT ((HT2.out.below (Below.refl W.heap.size W).drew).map) nm (.pointer none) (by kernel_rfl) false
          rw [look_seekH, hx] at l0
          have l1 : (Instr.lookup 54 (.map (some mh)) (tkey nm) false).run Try.prog W.drew = .ok (.pointer (some ⟨x.bh, 0, none⟩)) W.drew := l0
          have l2 := run_look (w := W.drew) Try.underlying60 keyI (HA.out.live.below (Below.refl W.heap.size W).drew) n (.pointer none) (by kernel_rfl) false
          rw [look_seekS, hs] at l2
          have l3 : (Instr.lookup 60 (.map (some x.ml)) (.int .i64 n) false).run Try.prog W.drew = .ok (.pointer (some ⟨s.bs, 0, none⟩)) W.drew := l2
          clear l0 l2 hx hs
          go_region
          obtain ⟨H2, t1, t2, t3⟩ := HT2.out.beat HX.out.1 HSS.out.1 (wrap64 (s.beats + 1))
          have HD : Hid (Below (W.setCell ⟨s.bs, 4, none⟩ (.int .i64 (wrap64 (s.beats + 1)))).heap.size (W.setCell ⟨s.bs, 4, none⟩ (.int .i64 (wrap64 (s.beats + 1)))) (W.setCell ⟨s.bs, 4, none⟩ (.int .i64 (wrap64 (s.beats + 1)))).drew) := (Below.refl _ _).drew
          have HT3 := hid (t1.below HD.out)
          have HM3 := hid ((HM2.out.trans t2).trans (MovedT.below HD.out))
          have HE3 := hid (t3.trans HE.out)
          clear t1 t2 t3 HD c0 k0 k1 h1 s4 f4 l1 l3 HSA HA HK
          go_wp2_with fail
          go_roundw
          case rel => exact ⟨j + 1, H2, by go_num, by omega, HT3, HM3, HE3⟩
          case measure => simp [intOf]; omega
        · go_wp2_with fail
          go_ret
          exact ⟨⟨_, rfl⟩, H', HT.out, HM.out, Sub.of_abk HE.out⟩
end Go.Proofs.Ytdieomhddnhfoaa
