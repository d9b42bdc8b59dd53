/-
  Sync.
-/
import Derived.Test.YtibhkkfbhbnmeaaDsk6
namespace Go.Proofs.Ytibhkkfbhbnmeaa
open Go.RowKit Go.ChangeMaps
set_option maxRecDepth 20000
set_option linter.unusedVariables false

/-- One file made safe. -/
def syn1 (F : List Fl) (nm : List UInt8) : List Fl := F.map fun y => if y.nm = nm then { y with safe := y.b.length } else y
def synF (F : List Fl) (ns : List (List UInt8)) : List Fl := ns.foldl syn1 F
def synA1 (A : List Ab) (nm : List UInt8) : List Ab := A.map fun a => if a.1 = nm then (a.1, a.2.1, a.2.1.length) else a
def synA (A : List Ab) (ns : List (List UInt8)) : List Ab := ns.foldl synA1 A
theorem abs_syn1 (F : List Fl) (nm : List UInt8) : abs (syn1 F nm) = synA1 (abs F) nm := by
  unfold abs syn1 synA1
  rw [List.map_map, List.map_map]
  refine List.map_congr_left fun y _ => ?_
  show (fun x : Fl => (x.nm, x.b, x.safe)) (if y.nm = nm then _ else y) = if y.nm = nm then _ else _
  split <;> rfl
theorem abs_synF : ∀ (ns : List (List UInt8)) (F : List Fl), abs (synF F ns) = synA (abs F) ns
  | [], _ => rfl
  | n :: ns, F => by
    show abs (synF (syn1 F n) ns) = synA (synA1 (abs F) n) ns
    rw [abs_synF ns, abs_syn1]
theorem syn1_has {m : Nat} {F : List Fl} {nm : List UInt8} {k : Nat} (h : TabHas m (syn1 F nm) k) : TabHas m F k := by
  rcases h with h | ⟨y, hy, h⟩
  · exact .inl h
  · obtain ⟨z, hz, rfl⟩ := List.mem_map.1 hy
    refine .inr ⟨z, hz, ?_⟩
    split at h <;> exact h
theorem syn1_mem {F : List Fl} (nm : List UInt8) {x : Fl} (h : x ∈ F) : ∃ y ∈ syn1 F nm, y.nm = x.nm ∧ y.f = x.f ∧ y.v = x.v ∧ y.b = x.b := by
  refine ⟨_, List.mem_map.2 ⟨x, h, rfl⟩, ?_⟩
  split <;> exact ⟨rfl, rfl, rfl, rfl⟩
theorem synF_mem : ∀ (ns : List (List UInt8)) {F : List Fl} {x : Fl} (h : x ∈ F), ∃ y ∈ synF F ns, y.nm = x.nm ∧ y.f = x.f ∧ y.v = x.v ∧ y.b = x.b
  | [], _, x, h => ⟨x, h, rfl, rfl, rfl, rfl⟩
  | n :: ns, F, x, h => by
    obtain ⟨y, h1, h2, h3, h4, h5⟩ := syn1_mem n h
    obtain ⟨z, g1, g2, g3, g4, g5⟩ := synF_mem ns h1
    exact ⟨z, g1, g2.trans h2, g3.trans h3, g4.trans h4, g5.trans h5⟩
theorem synF_snoc (F : List Fl) (ns : List (List UInt8)) (n : List UInt8) : synF F (ns ++ [n]) = syn1 (synF F ns) n := by
  unfold synF
  rw [List.foldl_append]; rfl
theorem TabAt.sy {w : World} {m : Nat} {F : List Fl} {x : Fl} (h : TabAt w m F) (hx : x ∈ F) : TabAt (w.setCell ⟨x.f, 1, none⟩ (.int .i64 (x.b.length : Nat))) m (syn1 F x.nm) := by
  have hk : KeptS (fun k => k = x.f) w (w.setCell ⟨x.f, 1, none⟩ (.int .i64 (x.b.length : Nat))) := KeptS.set (S := fun k => k = x.f) w ⟨x.f, 1, none⟩ _ rfl
  have hr := h.row x hx
  have e : syn1 F x.nm = setF F x.nm x.v x.b x.g x.b.length := by
    unfold syn1 setF
    refine List.map_congr_left fun y hy => ?_
    by_cases e : y.nm = x.nm
    · obtain rfl := inj_nm h.names hy hx e
      rfl
    · rw [if_neg e, if_neg e]
  rw [e]
  exact h.seF hx ((h.obj x hx).set 1 _) (hr.keptS hk (fun k e q => by
    rw [e] at hr
    exact hr.ne_obj (h.obj x hx) q)) (hk.imp (fun k e => .inl e)) (fun k e => .inl e)
theorem fp_at {w : World} {a : Option Addr} {fs : List Fl} (h : RowAt w a (fs.map fptr)) {k : Nat} (hk : k < fs.length) : ∃ b o, a = some ⟨b, o, none⟩ ∧ w.cell? ⟨b, o + k, none⟩ = some (.pointer (some ⟨fs[k].f, 0, none⟩)) := by
  obtain ⟨b, o, e, hc⟩ := h.at k (by simpa using hk)
  exact ⟨b, o, e, by simpa [fptr] using hc⟩
def DiskPost (w : World) (d m : Nat) (cap : Int) (F : List Fl) (code : Int) (A : List Ab) (e : Ending) (w' : World) : Prop :=
  e = .returned (.int .i64 code) ∧ ∃ F', DkAt w' d m cap F' ∧ abs F' = A ∧ Moved w w' m F F'

set_option maxHeartbeats 2000000 in
theorem disk_sync (d m : Nat) (cap : Int) (F : List Fl) (a : Option Addr) (ss : List ByteArray) (c : Nat) (w : World) (h : DkAt w d m cap F) (hr : RowAt w a (ss.map Value.string)) (hm : ss.length ≤ 1048576) :
    Calls Try.prog 15 #[.pointer (some ⟨d, 0, none⟩), .slice a ss.length c] w (DiskPost w d m cap F (findE F ss) (if findE F ss = 0 then synA (abs F) (ss.map bl) else abs F)) := by
  obtain ⟨A', hA'⟩ : ∃ A', A' = if findE F ss = 0 then synA (abs F) (ss.map bl) else abs F := ⟨_, rfl⟩
  rw [← hA']
  obtain ⟨z, hz⟩ : ∃ z, z = findE F ss := ⟨_, rfl⟩
  rw [← hz] at hA' ⊢
  have HA := hid hA'
  have HZ := hid hz
  have HH := hid h
  have HR := hid hr
  have c0 := h.obj.cell 0 _ rfl
  clear h hr hA' hz
  go_enter Try.func15, Try.ntmps15
  go_wp2_with fail
  refine (tab_find m F a ss c w HH.out.tab HR.out hm).mono ?_
  rintro e w1 ⟨hb, hc⟩
  have HH1 := hid (HH.out.below hb)
  have HM1 := hid (Moved.below (m := m) (F := F) hb)
  have hz1 : w.heap.size ≤ w1.heap.size := hb.size
  have HLT : Hid (∀ k, TabHas m F k → k < w.heap.size) := HH.out.tab.lt
  clear hb HH HR c0
  rcases hc with ⟨hne, rfl⟩ | ⟨he, fs, v, rfl, ho, hn, hf⟩
  · have HE := hid hne
    rw [← HZ.out] at HE ⊢
    clear hne
    go_wp2_with fail
    refine wp_loop_rounds 1 ?_
    rw [rounds_succ]
    go_wp2_with fail
    go_ret
    exact ⟨rfl, F, HH1.out, by rw [HA.out, if_neg HE.out], HM1.out⟩
  · have HE := hid he
    have HN := hid hn
    have HF := hid hf
    have HO := hid ho
    obtain ⟨va, vc, rfl, hr, -⟩ := owns_row ho
    have HR := hid hr
    have hlen : fs.length = ss.length := by have := congrArg List.length hn; simpa using this
    have hfl : fs.length ≤ 1048576 := by omega
    have HBLK : Hid (∀ ad, va = some ad → w.heap.size ≤ ad.block) := fun ad e => (HO.out.lt ad.block (by rw [e]; rfl)).1
    clear he hn hf ho hr hlen
    go_wp2_with fail
    go_loopw [20] (fun i wr => ∃ k : Nat, i = .int .i64 k ∧ k ≤ fs.length ∧ Hid (DkAt wr d m cap (synF F ((fs.map Fl.nm).take k))) ∧ Hid (Moved w wr m F (synF F ((fs.map Fl.nm).take k))) ∧ Hid (RowAt wr va (fs.map fptr)) ∧ Hid (∀ k', TabHas m (synF F ((fs.map Fl.nm).take k)) k' → TabHas m F k')) (fun i _ => fs.length - (intOf i).toNat)
    case atStart => exact ⟨0, rfl, Nat.zero_le _, HH1, HM1, HR, fun k h => h⟩
    case round =>
      clear HH1 HM1 HR
      obtain ⟨k, rfl, hk, HD, HM, HR, HS⟩ := hrel
      by_cases hlt : k < fs.length
      · obtain ⟨b, o, rfl, hc⟩ := fp_at HR.out hlt
        obtain ⟨y, hy, y1, y2, y3, y4⟩ := synF_mem ((fs.map Fl.nm).take k) (HF.out fs[k] (List.getElem_mem hlt))
        have HT : Hid (synF F ((fs.map Fl.nm).take (k + 1)) = syn1 (synF F ((fs.map Fl.nm).take k)) y.nm) := by
          show _ = _
          rw [List.take_succ_eq_append_getElem (by simpa using hlt), synF_snoc, List.getElem_map, y1]
        rw [← y2] at hc
        have HY := hid hy
        generalize synF F ((fs.map Fl.nm).take k) = G at *
        obtain ⟨va', vc', hve, -, -, hv1, hv2⟩ := (HD.out.tab.row y HY.out).bytes
        have x0 := (HD.out.tab.obj y HY.out).cell 0 y.v rfl
        have x1 := (HD.out.tab.obj y HY.out).cell 1 _ rfl
        have g1 := (HD.out.tab.obj y HY.out).frozen 1
        have hk1 : KeptS (fun q => q = y.f) wr (wr.setCell ⟨y.f, 1, none⟩ (.int .i64 (y.b.length : Nat))) := KeptS.set (S := fun q => q = y.f) wr ⟨y.f, 1, none⟩ _ rfl
        have HK1 := hid hk1
        have HTY := hid (HD.out.tab.sy HY.out)
        have hdo := HD.out.obj
        have HDO := hid (hdo.keptS hk1 (fun e => ObjAt.ne_obj hdo (HD.out.tab.obj y HY.out) (by decide) e))
        have HYF : Hid (y.f < w.heap.size) := HLT.out _ (HS.out _ (.inr ⟨y, HY.out, .inl rfl⟩))
        have HR2 := hid (HR.out.keptS hk1 (fun ad e q => by
          have h1 := HBLK.out ad e
          have h2 := HYF.out
          omega))
        have HM2 : Hid (Moved w (wr.setCell ⟨y.f, 1, none⟩ (.int .i64 (y.b.length : Nat))) m F (syn1 G y.nm)) := HM.out.trans ⟨fun k h => .inl (syn1_has h), hk1.imp (fun k e => .inr ⟨y, HY.out, .inl e.symm⟩)⟩
        have HS2 : Hid (∀ k', TabHas m (syn1 G y.nm) k' → TabHas m F k') := fun k' h => HS.out k' (syn1_has h)
        rw [hve] at x0
        unfold maxLen at hv2
        clear y1 y2 y3 y4 hy hve hk1 hdo HK1
        go_wp2
        go_roundw
        case rel => exact ⟨k + 1, by go_num, by omega, by rw [HT.out]; exact ⟨HDO.out, HTY.out⟩, by rw [HT.out]; exact HM2, HR2, by rw [HT.out]; exact HS2⟩
        case measure => simp [intOf]; omega
      · have hkl : k = fs.length := by omega
        subst hkl
        rw [List.take_of_length_le (by simp)] at HD HM
        clear hlt hk
        go_wp2_with fail
        go_ret
        exact ⟨by rw [HZ.out, HE.out]; rfl, _, HD.out, by rw [HA.out, HZ.out, if_pos HE.out, abs_synF, HN.out], HM.out⟩
end Go.Proofs.Ytibhkkfbhbnmeaa
