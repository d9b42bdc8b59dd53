/-
  Remove.
-/
import Derived.Test.YtibhkkfbhbnmeaaDsk9
namespace Go.Proofs.Ytibhkkfbhbnmeaa
open Go.RowKit Go.ChangeMaps
set_option maxRecDepth 20000
set_option linter.unusedVariables false

def remF (F : List Fl) (ns : List (List UInt8)) : List Fl := ns.foldl delF F
def remA (A : List Ab) (ns : List (List UInt8)) : List Ab := ns.foldl delA A
theorem abs_remF : ∀ (ns : List (List UInt8)) (F : List Fl), abs (remF F ns) = remA (abs F) ns
  | [], _ => rfl
  | n :: ns, F => by
    show abs (remF (delF F n) ns) = remA (delA (abs F) n) ns
    rw [abs_remF ns, abs_delF]
theorem remF_snoc (F : List Fl) (ns : List (List UInt8)) (n : List UInt8) : remF F (ns ++ [n]) = delF (remF F ns) n := by
  unfold remF
  rw [List.foldl_append]; rfl

set_option maxHeartbeats 2000000 in
theorem disk_remove (d m : Nat) (cap : Int) (F : List Fl) (a : Option Addr) (ss : List ByteArray) (c : Nat) (w : World) (h : DkAt w d m cap F) (hr : RowAt w a (ss.map Value.string)) (hm : ss.length ≤ 1048576) (hoff : ∀ ad, a = some ad → ss ≠ [] → ¬ TabHas m F ad.block) :
    Calls Try.prog 17 #[.pointer (some ⟨d, 0, none⟩), .slice a ss.length c] w (DiskPost w d m cap F (findE F ss) (if findE F ss = 0 then remA (abs F) (ss.map bl) else abs F)) := by
  obtain ⟨A', hA'⟩ : ∃ A', A' = if findE F ss = 0 then remA (abs F) (ss.map bl) else abs F := ⟨_, rfl⟩
  rw [← hA']
  obtain ⟨z, hz⟩ : ∃ z, z = findE F ss := ⟨_, rfl⟩
  rw [← hz] at hA' ⊢
  have HA := hid hA'
  have HZ := hid hz
  have HH := hid h
  have HR := hid hr
  have HOFF := hid hoff
  have c0 := h.obj.cell 0 _ rfl
  clear h hr hA' hz hoff
  go_enter Try.func17, Try.ntmps17
  go_wp2_with fail
  refine (tab_find m F a ss c w HH.out.tab HR.out hm).mono ?_
  rintro e w1 ⟨hb, hc⟩
  have HH1 := hid (HH.out.below hb)
  have HM1 := hid (Moved.below (m := m) (F := F) hb)
  have HR1 := hid (HR.out.below hb)
  clear hb HH HR c0
  rcases hc with ⟨hne, rfl⟩ | ⟨he, fs, v, rfl, ho, hn, hf⟩
  · have HE := hid hne
    rw [← HZ.out] at HE ⊢
    have e1 : (z == 0) = false := beq_eq_false_iff_ne.2 HE.out
    clear hne
    go_wp2_with fail
    go_ret
    exact ⟨rfl, F, HH1.out, by rw [HA.out, if_neg HE.out], HM1.out⟩
  · have HE := hid he
    clear he hn hf ho
    go_wp2_with fail
    go_loopw [23] (fun i wr => ∃ k : Nat, i = .int .i64 k ∧ k ≤ ss.length ∧ Hid (DkAt wr d m cap (remF F ((ss.map bl).take k))) ∧ Hid (Moved w wr m F (remF F ((ss.map bl).take k))) ∧ Hid (RowAt wr a (ss.map Value.string))) (fun i _ => ss.length - (intOf i).toNat)
    case atStart => exact ⟨0, rfl, Nat.zero_le _, HH1, HM1, HR1⟩
    case round =>
      clear HH1 HM1 HR1
      obtain ⟨k, rfl, hk, HD, HM, HR⟩ := hrel
      by_cases hlt : k < ss.length
      · obtain ⟨b, o, rfl, hc⟩ := str_row HR.out hlt
        have HT : Hid (remF F ((ss.map bl).take (k + 1)) = delF (remF F ((ss.map bl).take k)) (bl ss[k])) := by
          show _ = _
          rw [List.take_succ_eq_append_getElem (by simpa using hlt), remF_snoc, List.getElem_map]
        have HNE : Hid (ss ≠ []) := fun e => by rw [e] at hlt; simp at hlt
        generalize ss[k] = s at *
        generalize remF F ((ss.map bl).take k) = G at *
        obtain ⟨w3, hdel, hm3, hk3, hz3, -⟩ := run_del (P := Try.prog) Try.underlying55 keyT HD.out.tab.map (bl s)
        rw [← str_tkey] at hdel
        have ht3 := HD.out.tab.del hm3 hk3
        have hk3s : KeptS (fun k => k = m) wr w3 := KeptS.of_kept hk3 rfl
        have hdm := HD.out.obj.ne_map HD.out.tab.map
        have d3 := HD.out.obj.cell 0 _ rfl
        have HD4 : Hid (DkAt w3 d m cap (delF G (bl s))) := ⟨HD.out.obj.keptS hk3s hdm, ht3⟩
        have HM4 : Hid (Moved w w3 m F (delF G (bl s))) := HM.out.trans ⟨fun k hk => .inl (delF_has hk), hk3s.imp (fun k e => .inl e)⟩
        have HR4 := hid (HR.out.keptS hk3s (fun ad e q => HOFF.out ad e HNE.out (.inl q)))
        clear ht3 hk3s hdm hm3 hk3 hz3 HD HM HR
        go_wp2
        go_roundw
        case rel => exact ⟨k + 1, by go_num, by omega, by rw [HT.out]; exact HD4, by rw [HT.out]; exact HM4, HR4⟩
        case measure => simp [intOf]; omega
      · have hkl : k = ss.length := by omega
        subst hkl
        rw [List.take_of_length_le (by simp)] at HD HM
        clear hlt hk
        go_wp2_with fail
        go_ret
        exact ⟨by rw [HZ.out, HE.out]; rfl, _, HD.out, by rw [HA.out, HZ.out, if_pos HE.out, abs_remF], HM.out⟩
end Go.Proofs.Ytibhkkfbhbnmeaa
