/-
  Crash.
-/
import Derived.Test.YtibhkkfbhbnmeaaDskB
import Derived.RegionTactic
import Derived.IntWalk
import Derived.Deep.Cut
import Derived.Deep.CutBlock
namespace Go.Proofs.Ytibhkkfbhbnmeaa
open Go.RowKit Go.ChangeMaps
set_option maxRecDepth 20000
set_option linter.unusedVariables false

/-- How much more is kept. -/
def keepN (cs : List Int) (loose : Nat) : Nat := match cs with
  | [] => 0
  | c :: _ => (min (max c 0) (loose : Int)).toNat
/-- What is left of one file. -/
def crash1 (p : List Ab × List Int) (nm : List UInt8) : List Ab × List Int := match p.1.find? (fun a => decide (a.1 = nm)) with
  | none => p
  | some a => if a.2.2 = a.2.1.length then p else (setA p.1 nm (a.2.1.take (a.2.2 + keepN p.2 (a.2.1.length - a.2.2))) (a.2.2 + keepN p.2 (a.2.1.length - a.2.2)), p.2.tail)
def crashN (p : List Ab × List Int) (ns : List (List UInt8)) : List Ab × List Int := ns.foldl crash1 p
def crashA (A : List Ab) (cs : List Int) : List Ab := (crashN (A, cs) (sortL (A.map Prod.fst))).1
def SafeOk (F : List Fl) : Prop := ∀ x ∈ F, x.safe ≤ x.b.length
theorem keepN_le (cs : List Int) (loose : Nat) : keepN cs loose ≤ loose := by
  unfold keepN
  split
  · omega
  · omega
theorem find_abs {F : List Fl} {nm : List UInt8} {x : Fl} (h : fileOf F nm = some x) : (abs F).find? (fun a => decide (a.1 = nm)) = some (x.nm, x.b, x.safe) := by
  unfold abs fileOf at *
  rw [List.find?_map]
  have : ((fun a : Ab => decide (a.1 = nm)) ∘ fun x : Fl => (x.nm, x.b, x.safe)) = fun x : Fl => decide (x.nm = nm) := rfl
  rw [this, h]; rfl
theorem crash_same {F : List Fl} {nm : List UInt8} {x : Fl} {cs : List Int} (h : fileOf F nm = some x) (he : x.safe = x.b.length) : crash1 (abs F, cs) nm = (abs F, cs) := by
  unfold crash1
  rw [find_abs h]
  dsimp only
  rw [if_pos he]
theorem crash_cut {F : List Fl} {nm : List UInt8} {x : Fl} {cs : List Int} {v : Value} (h : fileOf F nm = some x) (he : x.safe ≠ x.b.length) :
    crash1 (abs F, cs) nm = (abs (setF F x.nm v (x.b.take (x.safe + keepN cs (x.b.length - x.safe))) x.g (x.safe + keepN cs (x.b.length - x.safe))), cs.tail) := by
  unfold crash1
  rw [find_abs h]
  dsimp only
  rw [if_neg he, abs_setF, (fileOf_mem h).2]
theorem setF_nm (F : List Fl) (nm : List UInt8) (v : Value) (b : List UInt8) (g : Option Nat) (s : Nat) : (setF F nm v b g s).map Fl.nm = F.map Fl.nm := by
  unfold setF
  rw [List.map_map]
  refine List.map_congr_left fun y _ => ?_
  show Fl.nm (if y.nm = nm then _ else y) = y.nm
  split <;> rfl
theorem setF_safe {F : List Fl} {nm : List UInt8} {v : Value} {b : List UInt8} {g : Option Nat} {s : Nat} (h : SafeOk F) (hs : s ≤ b.length) : SafeOk (setF F nm v b g s) := by
  intro y hy
  obtain ⟨z, hz, rfl⟩ := List.mem_map.1 hy
  split
  · exact hs
  · exact h z hz
theorem file_some {F : List Fl} {nm : List UInt8} (h : nm ∈ F.map Fl.nm) : ∃ x, fileOf F nm = some x := by
  obtain ⟨x, hx, e⟩ := List.mem_map.1 h
  have : (fileOf F nm).isSome = true := by
    unfold fileOf
    rw [List.find?_isSome]
    exact ⟨x, hx, decide_eq_true e⟩
  exact Option.isSome_iff_exists.1 this
theorem crashN_snoc (p : List Ab × List Int) (ns : List (List UInt8)) (n : List UInt8) : crashN p (ns ++ [n]) = crash1 (crashN p ns) n := by
  unfold crashN
  rw [List.foldl_append]; rfl
theorem name_at {w : World} {a : Option Addr} {ns : List (List UInt8)} (h : RowAt w a (ns.map tkey)) {k : Nat} (hk : k < ns.length) : ∃ b o, a = some ⟨b, o, none⟩ ∧ w.cell? ⟨b, o + k, none⟩ = some (.string ⟨ns[k].toArray⟩) := by
  obtain ⟨b, o, e, hc⟩ := h.at k (by simpa using hk)
  exact ⟨b, o, e, by simpa using hc⟩
theorem run_file' {w : World} {m : Nat} {F : List Fl} (h : TabAt w m F) (l : List UInt8) : (Instr.lookup 55 (.map (some m)) (.string ⟨l.toArray⟩) false).run Try.prog w = .ok (((fileOf F l).map fptr).getD (.pointer none)) w :=
  run_file h ⟨l.toArray⟩

def CrashPost (w : World) (d m : Nat) (cap : Int) (F : List Fl) (A : List Ab) (e : Ending) (w' : World) : Prop :=
  e = .returned (.tuple #[]) ∧ ∃ F', DkAt w' d m cap F' ∧ abs F' = A ∧ Moved w w' m F F'
/-- What the loop of Crash holds. -/
structure Cr (w w' : World) (d m : Nat) (cap : Int) (F G : List Fl) (cuts cs : List Int) (ns : List (List UInt8)) (va : Option Addr) (k : Nat) : Prop where
  dk : DkAt w' d m cap G
  mv : Moved w w' m F G
  st : (abs G, cs) = crashN (abs F, cuts) (ns.take k)
  row : RowAt w' va (ns.map tkey)
  safe : SafeOk G
  nms : G.map Fl.nm = F.map Fl.nm
  has : ∀ q, TabHas m G q → TabHas m F q

theorem crash_mem {w : World} {m n : Nat} {G : List Fl} {x : Fl} {xa : Option Addr} {xc : Nat} (h : TabAt w m G) (hx : x ∈ G) (hve : x.v = .slice xa x.b.length xc) (hn : n ≤ x.b.length) (h0 : 0 < x.b.length) :
    TabAt ((w.setCell ⟨x.f, 1, none⟩ (.int .i64 (n : Nat))).setCell ⟨x.f, 0, none⟩ (.slice xa n n)) m (setF G x.nm (.slice xa n n) (x.b.take n) x.g n) ∧ KeptS (fun k => k = x.f) w ((w.setCell ⟨x.f, 1, none⟩ (.int .i64 (n : Nat))).setCell ⟨x.f, 0, none⟩ (.slice xa n n)) := by
  have hk : KeptS (fun k => k = x.f) w ((w.setCell ⟨x.f, 1, none⟩ (.int .i64 (n : Nat))).setCell ⟨x.f, 0, none⟩ (.slice xa n n)) :=
    (KeptS.set (S := fun k => k = x.f) w ⟨x.f, 1, none⟩ _ rfl).next (KeptS.set (S := fun k => k = x.f) _ ⟨x.f, 0, none⟩ _ rfl)
  have hr := h.row x hx
  have hg : x.g ≠ none := fun e => by
    rcases hr with ⟨-, hb, -⟩ | ⟨k, _, _, e2, -⟩
    · rw [hb] at h0; simp at h0
    · rw [e] at e2; cases e2
  have hr2 := hr
  rw [hve] at hr2
  have hr3 := (hr2.cut hn hg).keptS hk (fun k e q => by
    rw [e] at hr
    exact hr.ne_obj (h.obj x hx) q)
  exact ⟨h.seF hx (((h.obj x hx).set 1 (.int .i64 (n : Nat))).set 0 (.slice xa n n)) hr3 (hk.imp (fun k e => .inl e)) (fun k e => .inl e), hk⟩
theorem Cr.cut {w w' w'' : World} {d m n k : Nat} {cap : Int} {F G : List Fl} {cuts cs cs' : List Int} {ns : List (List UInt8)} {va xa : Option Addr} {x : Fl} {xc : Nat} {nm : List UInt8} (h : Cr w w' d m cap F G cuts cs ns va k) (hff : fileOf G nm = some x) (hve : x.v = .slice xa x.b.length xc)
    (he : x.safe ≠ x.b.length) (hn : n = x.safe + keepN cs (x.b.length - x.safe)) (hcs : cs' = cs.tail) (hst : crashN (abs F, cuts) (ns.take (k + 1)) = crash1 (abs G, cs) nm) (hva : ∀ ad, va = some ad → w.heap.size ≤ ad.block) (hlt : ∀ k, TabHas m F k → k < w.heap.size)
    (hw : Below ((w'.setCell ⟨x.f, 1, none⟩ (.int .i64 (n : Nat))).setCell ⟨x.f, 0, none⟩ (.slice xa n n)).heap.size ((w'.setCell ⟨x.f, 1, none⟩ (.int .i64 (n : Nat))).setCell ⟨x.f, 0, none⟩ (.slice xa n n)) w'') :
    ∃ G', Cr w w'' d m cap F G' cuts cs' ns va (k + 1) := by
  obtain ⟨hx, hxn⟩ := fileOf_mem hff
  have hs := h.safe x hx
  have hkl := keepN_le cs (x.b.length - x.safe)
  have hnb : n ≤ x.b.length := by omega
  obtain ⟨t1, t2⟩ := crash_mem h.dk.tab hx hve hnb (by omega)
  have hob := h.dk.obj
  refine ⟨_, ⟨⟨(hob.keptS t2 (fun e => ObjAt.ne_obj hob (h.dk.tab.obj x hx) (by decide) e)).below hw, t1.below hw⟩, (h.mv.trans ⟨setF_has hx (fun k e => .inl e), t2.imp (fun k e => .inr ⟨x, hx, .inl e.symm⟩)⟩).trans (Moved.below hw), ?_, ?_, ?_, ?_, fun q hq => ?_⟩⟩
  · rw [hst, crash_cut (v := .slice xa n n) hff he, hcs, ← hn, hxn]
  · refine (h.row.keptS t2 (fun ad e q => ?_)).below hw
    have h1 := hva ad e
    have := hlt _ (h.has x.f (.inr ⟨x, hx, .inl rfl⟩))
    omega
  · exact setF_safe h.safe (by rw [List.length_take]; omega)
  · rw [setF_nm]; exact h.nms
  · rcases setF_has (n := q + 1) hx (fun k e => .inl e) q hq with h1 | h1
    · exact h.has q h1
    · omega

set_option maxHeartbeats 4000000 in
theorem disk_crash (d m : Nat) (cap : Int) (F : List Fl) (a : Option Addr) (cuts : List Int) (c : Nat) (w : World) (h : DkAt w d m cap F) (hr : RowAt w a (cuts.map (Value.int .i64))) (hc1 : cuts.length ≤ c) (hc2 : c ≤ maxLen) (hs : SafeOk F) (ht : total F ≤ 1073741824) (hl : ∀ x ∈ F, x.nm.length ≤ maxLen) (hm : F.length ≤ 1073741824)
    (hoff : cuts ≠ [] → ∀ ad, a = some ad → ad.block < w.heap.size → ¬ TabHas m F ad.block) :
    Calls Try.prog 18 #[.pointer (some ⟨d, 0, none⟩), .slice a cuts.length c] w (CrashPost w d m cap F (crashA (abs F) cuts)) := by
  obtain ⟨A', hA'⟩ : ∃ A', A' = crashA (abs F) cuts := ⟨_, rfl⟩
  rw [← hA']
  have HA := hid hA'
  have HH := hid h
  have HR := hid hr
  have HS := hid hs
  have HOFF := hid hoff
  have c0 := h.obj.cell 0 _ rfl
  have HLT : Hid (∀ k, TabHas m F k → k < w.heap.size) := h.tab.lt
  clear h hr hA' hoff hs
  go_enter Try.func18, Try.ntmps18
  go_wp2_with fail
  refine (tab_files m F w HH.out.tab hl (by omega)).mono ?_
  rintro e w1 ⟨v, rfl, ho, hb⟩
  obtain ⟨va, vc, rfl, hrn, -⟩ := owns_row ho
  have HBLK : Hid (∀ ad, va = some ad → w.heap.size ≤ ad.block) := fun ad e => (ho.lt ad.block (by rw [e]; rfl)).1
  obtain ⟨ns, hns⟩ : ∃ ns, ns = sortL (F.map Fl.nm) := ⟨_, rfl⟩
  rw [← hns] at hrn
  have hnl : ns.length = F.length := by rw [hns, sortL_len, List.length_map]
  have HNM : Hid (∀ n ∈ ns, n ∈ F.map Fl.nm) := fun n hn => by
    rw [hns] at hn
    unfold sortL at hn
    exact (List.mergeSort_perm _ _).mem_iff.1 hn
  have HAE : Hid (A' = (crashN (abs F, cuts) ns).1) := by
    show _ = _
    rw [HA.out, hns]
    unfold crashA abs
    rw [List.map_map]; rfl
  have HCR : Hid (Cr w w1 d m cap F F cuts cuts ns va 0) := ⟨HH.out.below hb, Moved.below hb, rfl, hrn, HS.out, rfl, fun q h => h⟩
  have HR1 := hid (HR.out.below hb)
  have HOF0 : Hid (cuts ≠ [] → ∀ ad, a = some ad → ¬ TabHas m F ad.block ∧ ad.block < w.heap.size) := fun hne ad e => by
    have hlt : ad.block < w.heap.size := HR.out.lt (fun q => hne (by simpa using q)) ad e
    exact ⟨HOFF.out hne ad e hlt, hlt⟩
  rw [← hnl]
  have hns2 : ns.length ≤ 1073741824 := by omega
  clear ho hb hrn hns hnl HH HR HS c0 HA hl
  go_wp2_with fail
  go_loopw [1, 15] (fun cv i wr => ∃ (k : Nat) (G : List Fl) (cs : List Int) (ac : Option Addr) (cc : Nat), i = .int .i64 k ∧ k ≤ ns.length ∧ cv = .slice ac cs.length cc ∧ cs.length ≤ cc ∧ cc ≤ maxLen ∧ Hid (RowAt wr ac (cs.map (Value.int .i64))) ∧ Hid (cs ≠ [] → ∀ ad, ac = some ad → ¬ TabHas m F ad.block ∧ ad.block < w.heap.size) ∧ Hid (Cr w wr d m cap F G cuts cs ns va k)) (fun _ i _ => ns.length - (intOf i).toNat)
  case atStart => exact ⟨0, F, cuts, a, c, rfl, Nat.zero_le _, rfl, hc1, hc2, HR1, HOF0, HCR⟩
  case round =>
    clear HCR HR1 HOF0 hc1 hc2
    obtain ⟨k, G, cs, ac, cc, rfl, hk, rfl, hc1, hc2, HRC, HOC, HCR⟩ := hrel
    by_cases hlt : k < ns.length
    · obtain ⟨b, o, rfl, hcn⟩ := name_at HCR.out.row hlt
      have hmem := HNM.out ns[k] (List.getElem_mem hlt)
      rw [← HCR.out.nms] at hmem
      obtain ⟨x, hff⟩ := file_some hmem
      have HST : Hid (crashN (abs F, cuts) (ns.take (k + 1)) = crash1 (abs G, cs) ns[k]) := by
        show _ = _
        rw [List.take_succ_eq_append_getElem hlt, crashN_snoc, HCR.out.st]
      generalize ns[k] = nm at *
      have hl2 := run_file' HCR.out.dk.tab nm
      rw [hff] at hl2
      simp only [Option.map_some, Option.getD_some, fptr] at hl2
      have hx := (fileOf_mem hff).1
      have HX := hid hx
      have HFF := hid hff
      have d0 := HCR.out.dk.obj.cell 0 _ rfl
      have x1 := (HCR.out.dk.tab.obj x hx).cell 1 _ rfl
      have hsx := HCR.out.safe x hx
      obtain ⟨xa, xc, hve, -, -, hv1, hv2⟩ := (HCR.out.dk.tab.row x hx).bytes
      have x0 := (HCR.out.dk.tab.obj x hx).cell 0 x.v rfl
      have HVE := hid hve
      rw [hve] at x0
      unfold maxLen at hv2
      clear hve
      clear hff hx hmem
      by_cases he : x.safe = x.b.length
      · have hw0 : IntKind.i64.wrap ((x.b.length : Int) - (x.b.length : Int)) = 0 := by rw [IntKind.wrap_i64]; omega
        have HCS := hid (crash_same (cs := cs) HFF.out he)
        rw [he] at x1
        clear he
        go_wp2_with fail
        go_quiet (fail)
        have hq := below_drewN' (B := wr.heap.size) (w := wr) nq
        have HCR2 : Hid (Cr w (wr.drewN nq) d m cap F G cuts cs ns (some ⟨b, o, none⟩) (k + 1)) :=
          ⟨HCR.out.dk.below hq, HCR.out.mv.trans (Moved.below hq), by rw [HST.out, HCS.out], HCR.out.row.below hq, HCR.out.safe, HCR.out.nms, HCR.out.has⟩
        have HRC2 := hid (HRC.out.below hq)
        clear hq HCR HRC
        go_wp2_with fail
        go_roundw
        case rel => exact ⟨k + 1, G, cs, ac, cc, by go_num, by omega, rfl, hc1, hc2, HRC2, HOC, HCR2⟩
        case measure => simp [intOf]; omega
      · have hlo : x.safe < x.b.length := by omega
        have hw0 : IntKind.i64.wrap ((x.b.length : Int) - (x.safe : Int)) = ((x.b.length - x.safe : Nat) : Int) := by rw [IntKind.wrap_i64]; omega
        have HNE := hid he
        clear he
        go_wp2_with fail
        go_quiet (fail)
        have hq := below_drewN' (B := wr.heap.size) (w := wr) nq
        have x1q := ((HCR.out.dk.tab.below hq).obj x HX.out).cell 1 _ rfl
        have g1q := ((HCR.out.dk.tab.below hq).obj x HX.out).frozen 1
        have HCRq : Hid (Cr w (wr.drewN nq) d m cap F G cuts cs ns (some ⟨b, o, none⟩) k) :=
          ⟨HCR.out.dk.below hq, HCR.out.mv.trans (Moved.below hq), HCR.out.st, HCR.out.row.below hq, HCR.out.safe, HCR.out.nms, HCR.out.has⟩
        have HRCq := hid (HRC.out.below hq)
        obtain ⟨L, hL⟩ : ∃ L, L = x.b.length - x.safe := ⟨_, rfl⟩
        have HL := hid hL
        have hL0 : 0 < L := by omega
        rw [← hL]
        clear hq HCR HRC hw0 x1 x0 d0 hl2 hcn hL
        generalize wr.drewN nq = wq at *
        cases cs with
        | nil =>
          go_upto_region 10 with fail
          obtain ⟨n, hn⟩ : ∃ n : Nat, n = x.safe := ⟨_, rfl⟩
          have HN := hid hn
          have hval : ((x.safe : Int) : Int) = ((n : Nat) : Int) := by omega
          rw [hval]
          have hnx : n ≤ xc := by omega
          have hnx2 : (n : Int) ≤ xc := by omega
          clear hval hn
          have HO2 := hid ((HCRq.out.dk.tab.obj x HX.out).set 1 (.int .i64 (n : Nat)))
          have hx0 := HO2.out.cell 0 x.v rfl
          rw [HVE.out] at hx0
          have hx1 := HO2.out.cell 1 (.int .i64 (n : Nat)) rfl
          have hg0 := HO2.out.frozen 0
          obtain ⟨G', hG'⟩ := Cr.cut (cs' := []) (w'' := ((wq.setCell ⟨x.f, 1, none⟩ (.int .i64 (n : Nat))).setCell ⟨x.f, 0, none⟩ (.slice xa n n)).drew) HCRq.out HFF.out HVE.out HNE.out (by have := HN.out; simp only [keepN]; omega) rfl HST.out HBLK.out HLT.out (below_drewN' 1)
          have HG := hid hG'
          clear x1q g1q hG'
          go_region
          all_goals
            go_wp2_with fail
            go_roundw
            case rel => exact ⟨k + 1, G', [], ac, cc, by go_num, by omega, rfl, hc1, hc2, RowAt.nil _ _, HOC, HG⟩
            case measure => simp [intOf]; omega
        | cons z cs =>
          obtain ⟨b2, o2, hac, hcz⟩ := HRCq.out 0 (.int .i64 z) rfl
          subst hac
          rw [Nat.add_zero] at hcz
          obtain ⟨hoc1, hoc2⟩ := HOC.out (by simp) _ rfl
          have HOC1 : Hid (b2 ≠ x.f) := fun e => hoc1 (HCRq.out.has _ (.inr ⟨x, HX.out, .inl e.symm⟩))
          have HOC2 : Hid (¬ TabHas m F b2 ∧ b2 < w.heap.size) := ⟨hoc1, hoc2⟩
          have hL0i : (0 : Int) < (L : Int) := by omega
          have hcc1 : cs.length + 1 ≤ cc := hc1
          have hcc9 : cc ≤ 9223372036854775807 := by unfold maxLen at hc2; exact hc2
          have hkv : ∀ K : Nat, (K : Int) = min (max z 0) (L : Int) → keepN (z :: cs) (x.b.length - x.safe) = K := fun K hK => by
            show (min (max z 0) ((x.b.length - x.safe : Nat) : Int)).toNat = K
            rw [← HL.out, ← hK]; simp
          have HKV := hid hkv
          have HRT : Hid (∀ (q n : Nat), RowAt ((((wq.drewN q).setCell ⟨x.f, 1, none⟩ (.int .i64 (n : Nat))).setCell ⟨x.f, 0, none⟩ (.slice xa n n)).drew) (some ⟨b2, o2, none⟩) ((z :: cs).map (Value.int .i64))) := fun q n =>
            ((HRCq.out.below (below_drewN' q)).keptS ((KeptS.set (S := fun q => q = x.f) (wq.drewN q) ⟨x.f, 1, none⟩ (.int .i64 (n : Nat)) rfl).next (KeptS.set (S := fun q => q = x.f) _ ⟨x.f, 0, none⟩ (.slice xa n n) rfl)) (fun ad e q => HOC1.out (by cases e; exact q))).below (below_drewN' 1)
          clear hoc1 hoc2 hkv
          obtain ⟨K, hK⟩ : ∃ K : Nat, (K : Int) = min (max z 0) (L : Int) := ⟨(min (max z 0) (L : Int)).toNat, by omega⟩
          have HK := hid hK
          have hKL : K ≤ L := by omega
          have hLb : x.safe + L = x.b.length := by have := HL.out; omega
          have hsb : (x.safe : Int) + (K : Int) ≤ 9223372036854775807 := by omega
          by_cases hcc : cc = 1
          · subst hcc
            obtain rfl : cs = [] := List.eq_nil_of_length_eq_zero (by omega)
            go_upto_region 8 with fail
            go_quiet (fail)
            have hq := below_drewN' (B := wq.heap.size) (w := wq) nq
            have x1q := ((HCRq.out.dk.tab.below hq).obj x HX.out).cell 1 _ rfl
            have g1q := ((HCRq.out.dk.tab.below hq).obj x HX.out).frozen 1
            have HCRz : Hid (Cr w (wq.drewN nq) d m cap F G cuts [z] ns (some ⟨b, o, none⟩) k) :=
              ⟨HCRq.out.dk.below hq, HCRq.out.mv.trans (Moved.below hq), HCRq.out.st, HCRq.out.row.below hq, HCRq.out.safe, HCRq.out.nms, HCRq.out.has⟩
            have HRTz := hid (HRT.out nq)
            clear hq HCRq HRCq HRT hcz
            generalize wq.drewN nq = wz at *
            rw [← hK]
            clear hK
            go_upto_region 10 with fail
            obtain ⟨n, hn⟩ : ∃ n : Nat, n = x.safe + K := ⟨_, rfl⟩
            have HN := hid hn
            have hval : ((x.safe : Int) + (K : Int) : Int) = ((n : Nat) : Int) := by omega
            rw [hval]
            have hnx : n ≤ xc := by omega
            have hnx2 : (n : Int) ≤ xc := by omega
            clear hval hn
            have HO2 := hid ((HCRz.out.dk.tab.obj x HX.out).set 1 (.int .i64 (n : Nat)))
            have hx0 := HO2.out.cell 0 x.v rfl
            rw [HVE.out] at hx0
            have hx1 := HO2.out.cell 1 (.int .i64 (n : Nat)) rfl
            have hg0 := HO2.out.frozen 0
            obtain ⟨G', hG'⟩ := Cr.cut (cs' := []) (w'' := ((wz.setCell ⟨x.f, 1, none⟩ (.int .i64 (n : Nat))).setCell ⟨x.f, 0, none⟩ (.slice xa n n)).drew) HCRz.out HFF.out HVE.out HNE.out (by rw [HKV.out K HK.out, HN.out]) rfl HST.out HBLK.out HLT.out (below_drewN' 1)
            have HG := hid hG'
            clear x1q g1q hG'
            go_region
            all_goals
              go_wp2_with fail
              go_roundw
              case rel => exact ⟨k + 1, G', [], some ⟨b2, o2, none⟩, 0, by go_num, by omega, rfl, Nat.le_refl _, Nat.zero_le _, RowAt.nil _ _, fun h => absurd rfl h, HG⟩
              case measure => simp [intOf]; omega
          · go_upto_region 8 with fail
            go_quiet (fail)
            have hq := below_drewN' (B := wq.heap.size) (w := wq) nq
            have x1q := ((HCRq.out.dk.tab.below hq).obj x HX.out).cell 1 _ rfl
            have g1q := ((HCRq.out.dk.tab.below hq).obj x HX.out).frozen 1
            have HCRz : Hid (Cr w (wq.drewN nq) d m cap F G cuts (z :: cs) ns (some ⟨b, o, none⟩) k) :=
              ⟨HCRq.out.dk.below hq, HCRq.out.mv.trans (Moved.below hq), HCRq.out.st, HCRq.out.row.below hq, HCRq.out.safe, HCRq.out.nms, HCRq.out.has⟩
            have HRTz := hid (HRT.out nq)
            clear hq HCRq HRCq HRT hcz
            generalize wq.drewN nq = wz at *
            rw [← hK]
            clear hK
            go_upto_region 10 with fail
            obtain ⟨n, hn⟩ : ∃ n : Nat, n = x.safe + K := ⟨_, rfl⟩
            have HN := hid hn
            have hval : ((x.safe : Int) + (K : Int) : Int) = ((n : Nat) : Int) := by omega
            rw [hval]
            have hnx : n ≤ xc := by omega
            have hnx2 : (n : Int) ≤ xc := by omega
            clear hval hn
            have HO2 := hid ((HCRz.out.dk.tab.obj x HX.out).set 1 (.int .i64 (n : Nat)))
            have hx0 := HO2.out.cell 0 x.v rfl
            rw [HVE.out] at hx0
            have hx1 := HO2.out.cell 1 (.int .i64 (n : Nat)) rfl
            have hg0 := HO2.out.frozen 0
            obtain ⟨G', hG'⟩ := Cr.cut (cs' := cs) (w'' := ((wz.setCell ⟨x.f, 1, none⟩ (.int .i64 (n : Nat))).setCell ⟨x.f, 0, none⟩ (.slice xa n n)).drew) HCRz.out HFF.out HVE.out HNE.out (by rw [HKV.out K HK.out, HN.out]) rfl HST.out HBLK.out HLT.out (below_drewN' 1)
            have HG := hid hG'
            clear x1q g1q hG'
            go_region
            all_goals
              go_wp2_with fail
              go_roundw
              case rel => exact ⟨k + 1, G', cs, some ⟨b2, o2 + 1, none⟩, cc - 1, by go_num, by omega, rfl, (by omega), (Nat.le_trans (Nat.sub_le _ _) hc2), hid ((HRTz.out n).drop 1 (a' := some ⟨b2, o2 + 1, none⟩) (fun _ b o e => by cases e; rfl)), fun _ ad e => by cases e; exact HOC2.out, HG⟩
              case measure => simp [intOf]; omega
    · have hkl : k = ns.length := by omega
      subst hkl
      clear hlt hk
      go_wp2_with fail
      go_end0
      exact ⟨rfl, G, HCR.out.dk, by
        have h := HCR.out.st
        rw [List.take_length] at h
        rw [HAE.out, ← h], HCR.out.mv⟩
end Go.Proofs.Ytibhkkfbhbnmeaa
