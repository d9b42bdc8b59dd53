/-
  Interf: an entry.
-/
import Derived.Test.YtongefjadoidbaaRows
import Derived.Test.YtongefjadoidbaaIntP
import Derived.Test.YtongefjadoidbaaFoot
import Derived.BigRegion
import Derived.OwnWalk
import Derived.Deep.DeepCutAuto
import Derived.Deep.CutBlock
namespace Go.Proofs.Ytongefjadoidbaa
open Go.RowKit
set_option maxRecDepth 20000
set_option linter.unusedVariables false

theorem int_known (k : Int) (h : List UInt8) (d : Value) (w : World) : Calls Try.prog 20 #[.agg #[.int .i64 k, .string ⟨h.toArray⟩, d]] w fun e w' => e = .returned (.bool (decide (KindOk k))) ∧ Below w.heap.size w w' := by
  have HB := hid (below_new (w := w) (.cells #[.int .i64 k, .string ⟨h.toArray⟩, d] 25))
  by_cases h1 : 0 ≤ k
  · by_cases h2 : k ≤ 2
    · have HD : Hid (decide (KindOk k) = true) := decide_eq_true ⟨h1, h2⟩
      go_enter Try.func20, Try.ntmps20
      go_wp2_with fail
      go_ret
      exact ⟨by rw [HD.out]; rfl, HB.out⟩
    · have HD : Hid (decide (KindOk k) = false) := decide_eq_false (fun h => h2 h.2)
      go_enter Try.func20, Try.ntmps20
      go_wp2_with fail
      go_ret
      exact ⟨by rw [HD.out]; rfl, HB.out⟩
  · have HD : Hid (decide (KindOk k) = false) := decide_eq_false (fun h => h1 h.1)
    go_enter Try.func20, Try.ntmps20
    go_wp2_with fail
    go_ret
    exact ⟨by rw [HD.out]; rfl, HB.out⟩

/-- An entry: the block eb begins with its number and its vector, which lies in the block db. -/
def EntAt (w : World) (eb db : Nat) (t : TypeId) (rest : List Value) (l : List Int) (s : Int) : Prop :=
  ∃ cap cu, ObjAt w eb t (.int .i64 s :: .slice (some ⟨db, 0, none⟩) l.length cap :: rest).toArray ∧ ObjAt w db 3 cu ∧ Cells cu l ∧ l.length ≤ cap ∧ cap ≤ maxLen ∧ eb ≠ db
theorem EntAt.below {w w' : World} {eb db : Nat} {t : TypeId} {rest : List Value} {l : List Int} {s : Int} (h : EntAt w eb db t rest l s) (hb : Below w.heap.size w w') : EntAt w' eb db t rest l s := by
  obtain ⟨cap, cu, h1, h2, h3⟩ := h
  exact ⟨cap, cu, h1.below hb, h2.below hb, h3⟩
theorem EntAt.keptS {S : Nat → Prop} {w w' : World} {eb db : Nat} {t : TypeId} {rest : List Value} {l : List Int} {s : Int} (h : EntAt w eb db t rest l s) (hk : KeptS S w w') (he : ¬ S eb) (hd : ¬ S db) : EntAt w' eb db t rest l s := by
  obtain ⟨cap, cu, h1, h2, h3⟩ := h
  exact ⟨cap, cu, h1.keptS hk he, h2.keptS hk hd, h3⟩

theorem max_if (a b : Int) : max a b = if a < b then b else a := by split <;> omega
set_option maxHeartbeats 1000000 in
theorem ent_add (eb db : Nat) (t : TypeId) (rest : List Value) (n : Nat) (L : List It) (it : It) (w : World) (h : EntAt w eb db t rest (depsL n L) (seqMax L)) (hr : RangeOk n it) (hn : n ≤ 7) :
    Calls Try.prog 28 #[.pointer (some ⟨eb, 0, none⟩), .agg #[.int .i64 it.rep, .int .i64 it.num], .int .i64 it.seq] w fun e w' =>
      e = .returned (.tuple #[]) ∧ EntAt w' eb db t rest (depsL n (L ++ [it])) (seqMax (L ++ [it])) ∧ KeptS (fun k => k = eb ∨ k = db) w w' := by
  have HR := hid hr
  obtain ⟨r, hrep⟩ : ∃ r : Nat, it.rep = r := ⟨it.rep.toNat, by have := hr.1; omega⟩
  have HQ := hid (seqMax_snoc L it (by have := hr.2.2.2.2.1; omega))
  have HD := hid (depsL_snoc L it hr)
  have hrn : r < n := by have := hr.2.1; omega
  have hlen := depsL_len n L
  have hget : ∃ hh : r < (depsL n L).length, (depsL n L)[r] = depMax it.rep L := ⟨by omega, by rw [depsL_get, hrep]⟩
  obtain ⟨cap, cu, h1, h2, h3, hcap, hcm, hne⟩ := h
  rw [hrep] at HD hget
  have hrn' : it.rep.toNat = r := by omega
  have hrt : ((r : Int)).toNat = r := by omega
  rw [hrt] at HD
  rw [hrep]
  have hgq : (depsL n L)[r]? = some (depMax (r : Int) L) := by obtain ⟨a, b⟩ := hget; rw [List.getElem?_eq_getElem a, b]
  clear hget hrn' hr hrt
  have HLEN := hid hlen
  generalize hsq : seqMax L = sq at *
  generalize hdl : depsL n L = dl at *
  generalize hdm : depMax (r : Int) L = dm at *
  generalize it.num = num at *
  generalize it.seq = seq at *
  have hdlen : dl.length = n := hlen
  rw [max_if] at HQ HD
  clear hsq hdl hdm hrep hlen
  have cu_r : cu[r]? = some (.int .i64 dm) := by
    obtain ⟨a, b⟩ := List.getElem?_eq_some_iff.1 hgq
    rw [h3.2 r a, b]
  have HK := hid (ObjAt.new w 37 #[.int .i64 r, .int .i64 num])
  have hb := below_new (w := w) (.cells #[.int .i64 r, .int .i64 num] 37)
  have HE := hid (h1.below hb)
  have HV := hid (h2.below hb)
  have HC := hid h3
  have heb : eb < w.heap.size := h1.lt
  have hdb : db < w.heap.size := h2.lt
  have HB := hid (KeptS.of_below (S := fun k => k = eb ∨ k = db) hb)
  have HDL := hid hdlen
  have hrI : (r : Int) < dl.length := by omega
  clear h1 h2 h3 hb hdlen hgq
  go_enter Try.func28, Try.ntmps28
  go_upto_region 1 with fail
  generalize w.alloc (.cells #[.int .i64 r, .int .i64 num] 37) = W at *
  have hke : w.heap.size ≠ eb := by omega
  have hkd : w.heap.size ≠ db := by omega
  generalize w.heap.size = kb at *
  have c0 := HE.out.cell 0 (.int .i64 sq) rfl
  have f0 := HE.out.frozen 0
  have HE2 := hid (HE.out.set 0 (.int .i64 (if sq < seq then seq else sq)))
  have HKS := hid (KeptS.set (S := fun k => k = eb ∨ k = db) W ⟨eb, 0, none⟩ (.int .i64 (if sq < seq then seq else sq)) (.inl rfl))
  have HV2 := hid (HV.out.keptS (KeptS.set (S := fun k => k = eb) W ⟨eb, 0, none⟩ (.int .i64 (if sq < seq then seq else sq)) rfl) (fun e => hne e.symm))
  have HK2 := hid (HK.out.keptS (KeptS.set (S := fun k => k = eb) W ⟨eb, 0, none⟩ (.int .i64 (if sq < seq then seq else sq)) rfl) hke)
  have HB2 := hid (HB.out.next HKS.out)
  have hmx : sq < seq ∨ ¬ sq < seq := by omega
  clear HE HV HK HB HKS
  go_upto_region 2 with fail
  clear c0 f0 hmx
  generalize W.setCell ⟨eb, 0, none⟩ (.int .i64 (if sq < seq then seq else sq)) = W2 at *
  generalize (if sq < seq then seq else sq) = V at *
  have e1 := HE2.out.cell 1 (.slice (some ⟨db, 0, none⟩) dl.length cap) rfl
  have k0 := HK2.out.cell 0 (.int .i64 r) rfl
  have k1 := HK2.out.cell 1 (.int .i64 num) rfl
  have d0 := HV2.out.cell r (.int .i64 dm) cu_r
  have g0 := HV2.out.frozen r
  have HV3 := hid (HV2.out.set r (.int .i64 (if dm < num then num else dm)))
  have HKS := hid (KeptS.set (S := fun k => k = eb ∨ k = db) W2 ⟨db, r, none⟩ (.int .i64 (if dm < num then num else dm)) (.inr rfl))
  have HE3 := hid (HE2.out.keptS (KeptS.set (S := fun k => k = db) W2 ⟨db, r, none⟩ (.int .i64 (if dm < num then num else dm)) rfl) hne)
  have HB3 := hid (HB2.out.next HKS.out)
  have HC3 := hid (HC.out.set r (if dm < num then num else dm))
  clear cu_r HE2 HV2 HK2 HB2 HC HKS
  by_cases hm : dm < num
  · rw [if_pos hm] at HV3 HB3 HE3 HC3 HD
    go_big_region
    all_goals go_wp2
    go_end0
    refine ⟨rfl, ⟨cap, _, ?_, HV3.out, by rw [HD.out]; exact HC3.out, by rw [HD.out, List.length_set]; exact hcap, hcm, hne⟩, HB3.out.next (KeptS.drewN _ 1)⟩
    rw [HQ.out, HD.out, List.length_set]
    have h := HE3.out
    simp only [List.setIfInBounds_toArray, List.set_cons_zero] at h
    exact h
  · rw [if_neg hm] at HV3 HB3 HE3 HC3 HD
    go_big_region
    all_goals go_wp2
    go_end0
    refine ⟨rfl, ⟨cap, _, ?_, HV3.out, by rw [HD.out]; exact HC3.out, by rw [HD.out, List.length_set]; exact hcap, hcm, hne⟩, HB3.out.next (KeptS.drewN _ 1)⟩
    rw [HQ.out, HD.out, List.length_set]
    have h := HE3.out
    simp only [List.setIfInBounds_toArray, List.set_cons_zero] at h
    exact h
end Go.Proofs.Ytongefjadoidbaa
