/-
  Package disk: Clone.
-/
import Derived.Test.YtibhkkfbhbnmeaaDr8
namespace Go.Proofs.Ytibhkkfbhbnmeaa
open Go.RowKit Go.ChangeMaps
set_option maxRecDepth 20000
set_option linter.unusedVariables false

/-- The files that were not seen yet. -/
def restL (P : List (MapEntry × Fl)) (seen : Array Nat) : List Fl := (P.filter fun p => !seen.contains p.1.born).map Prod.snd
theorem restL_push (P : List (MapEntry × Fl)) (seen : Array Nat) (b : Nat) (h : b ∉ P.map (·.1.born)) : restL P (seen.push b) = restL P seen := by
  unfold restL
  congr 1
  refine List.filter_congr (fun p hp => ?_)
  have hne : b ≠ p.1.born := fun e => h (List.mem_map.2 ⟨p, hp, e.symm⟩)
  rw [Array.contains_push]
  have : (b == p.1.born) = false := beq_eq_false_iff_ne.2 hne
  simp [this, hne, Ne.symm hne]
theorem restL_step : ∀ (P : List (MapEntry × Fl)) (seen : Array Nat) (p : MapEntry × Fl), (P.map (·.1.born)).Nodup → p ∈ P → seen.contains p.1.born = false → (restL P seen).Perm (p.2 :: restL P (seen.push p.1.born))
  | [], _, _, _, h, _ => by simp at h
  | q :: P, seen, p, hn, h, hs => by
    simp only [List.map_cons, List.nodup_cons] at hn
    rcases List.mem_cons.1 h with rfl | h
    · have h1 : restL (p :: P) seen = p.2 :: restL P seen := by
        unfold restL
        rw [List.filter_cons_of_pos (by rw [hs]; rfl)]; rfl
      have h2 : restL (p :: P) (seen.push p.1.born) = restL P seen := by
        rw [← restL_push P seen p.1.born hn.1]
        unfold restL
        rw [List.filter_cons_of_neg (by rw [Array.contains_push]; simp)]
      rw [h1, h2]
    · have ih := restL_step P seen p hn.2 h hs
      have hne : p.1.born ≠ q.1.born := fun e => hn.1 (List.mem_map.2 ⟨p, h, e⟩)
      have hc : (seen.push p.1.born).contains q.1.born = seen.contains q.1.born := by
        rw [Array.contains_push]; simp [hne, Ne.symm hne]
      by_cases hq : seen.contains q.1.born = true
      · have h1 : restL (q :: P) seen = restL P seen := by unfold restL; rw [List.filter_cons_of_neg (by rw [hq]; simp)]
        have h2 : restL (q :: P) (seen.push p.1.born) = restL P (seen.push p.1.born) := by unfold restL; rw [List.filter_cons_of_neg (by rw [hc, hq]; simp)]
        rw [h1, h2]; exact ih
      · have hq' : seen.contains q.1.born = false := by simpa using hq
        have h1 : restL (q :: P) seen = q.2 :: restL P seen := by unfold restL; rw [List.filter_cons_of_pos (by rw [hq']; rfl)]; rfl
        have h2 : restL (q :: P) (seen.push p.1.born) = q.2 :: restL P (seen.push p.1.born) := by unfold restL; rw [List.filter_cons_of_pos (by rw [hc, hq']; rfl)]; rfl
        rw [h1, h2]
        exact (ih.cons q.2).trans (List.Perm.swap _ _ _)
theorem restL_none {es : Array MapEntry} {P : List (MapEntry × Fl)} {seen : Array Nat} (h : (leftOf es seen).size = 0) (hp : ∀ p ∈ P, p.1 ∈ es.toList) : restL P seen = [] := by
  unfold restL
  rw [List.map_eq_nil_iff, List.filter_eq_nil_iff]
  intro p hpp
  have := hp p hpp
  unfold leftOf at h
  have h2 : (es.filter fun e => !seen.contains e.born) = #[] := Array.eq_empty_of_size_eq_zero h
  rw [Array.filter_eq_empty_iff] at h2
  exact h2 p.1 (by simpa using this)
theorem restL_all (P : List (MapEntry × Fl)) : restL P #[] = P.map Prod.snd := by
  unfold restL
  congr 1
  exact List.filter_eq_self.2 (fun p _ => by simp)
theorem TabAt.push2 {w w' : World} {m : Nat} {F : List Fl} {x : Fl} (h : TabAt w m F) (hm : MapAt w' m tkey (F.map flEnt ++ [flEnt x])) (hk : KeptS (fun k => k = m) w w') (ho : ObjAt w' x.f 69 #[x.v, .int .i64 (x.safe : Nat)]) (hr : RowOf w' x.v x.b x.g)
    (hf : w.heap.size ≤ x.f) (hg : ∀ k, x.g = some k → w.heap.size ≤ k) : TabAt w' m (F ++ [x]) := by
  refine ⟨by rw [List.map_append]; exact hm, fun y hy => ?_, fun y hy => ?_, ?_, ?_⟩
  · rcases List.mem_append.1 hy with hy | hy
    · exact (h.obj y hy).keptS hk (fun e => (h.obj y hy).ne_map h.map e)
    · rw [List.mem_singleton.1 hy]; exact ho
  · rcases List.mem_append.1 hy with hy | hy
    · exact (h.row y hy).keptS hk (fun k e q => by
        have := h.row y hy
        rw [e] at this
        exact this.ne_map h.map q)
    · rw [List.mem_singleton.1 hy]; exact hr
  · rw [List.map_append]
    refine List.nodup_append.2 ⟨h.fd, by simp, fun a ha b hb e => ?_⟩
    obtain ⟨y, hy, rfl⟩ := List.mem_map.1 ha
    simp only [List.map_cons, List.map_nil, List.mem_singleton] at hb
    have := (h.obj y hy).lt
    omega
  · refine List.pairwise_append.2 ⟨h.gd, by simp, fun a ha b hb => ?_⟩
    rw [List.mem_singleton.1 hb]
    cases hag : a.g with
    | none => exact .inl rfl
    | some k =>
      refine .inr (fun e => ?_)
      have h1 := (h.row a ha).lt k hag
      have h2 := hg k e.symm
      omega

set_option maxHeartbeats 4000000 in
theorem disk_clone (d m : Nat) (cap : Int) (F : List Fl) (w : World) (h : DkAt w d m cap F) (ht : total F ≤ 1073741824) :
    Calls Try.prog 26 #[.pointer (some ⟨d, 0, none⟩)] w fun e w' => ∃ (d2 m2 : Nat) (G : List Fl), e = .returned (.pointer (some ⟨d2, 0, none⟩)) ∧ DkAt w' d2 m2 cap G ∧ (abs G).Perm (abs F) ∧ Below w.heap.size w w' ∧ ∀ k, (k = d2 ∨ TabHas m2 G k) → w.heap.size ≤ k := by
  have HH := hid h
  obtain ⟨arr, clock, hbm, hent, hbo, hnd, hks⟩ := h.tab.map
  have hlen : arr.toList.length = F.length := by
    have := congrArg List.length hent
    simpa using this
  have hent' : arr.toList.map (fun e => (e.key, e.val)) = F.map fun x => (tkey (flEnt x).1, (flEnt x).2) := by rw [hent, List.map_map]; rfl
  have HE := hid hent'
  have HBO := hid hbo
  have HND := hid hnd
  have HZF := hid (zip_fst arr.toList F hlen)
  have HZS := hid (zip_snd arr.toList F hlen)
  have hb1 := below_new (w := w) (.map #[] 0)
  have HM1 := hid (MapAt.new w tkey)
  have HB1 := hid hb1
  have HH1 := hid (HH.out.below hb1)
  have HBM : Hid ((w.alloc (.map #[] 0)).heap[m]? = some (.map arr clock)) := (hb1.block m h.tab.map.lt).trans hbm
  clear hent hent' hbo hnd hks hbm hlen h hb1
  have hmm := @run_makeMap Try.prog
  go_enter Try.func26, Try.ntmps26
  go_upto_region 2 with fail
  clear hmm
  generalize w.alloc (.map #[] 0) = w1 at *
  obtain ⟨mb, hmb⟩ : ∃ z, z = w.heap.size := ⟨_, rfl⟩
  rw [← hmb] at HM1 ⊢
  have HMB := hid hmb
  clear hmb
  have hrg := _root_.Go.run_range_map (P := Try.prog) w1 _ _ _ m arr clock Try.underlying55 HBM.out
  have d0 := HH1.out.obj.cell 0 (.map (some m)) rfl
  have hmbl := HM1.out.lt
  go_wp2_with fail
  clear hrg d0
  obtain ⟨rb, hrb⟩ : ∃ z, z = w1.heap.size := ⟨_, rfl⟩
  have HRB := hid hrb
  rw [← hrb]
  have hb2 := below_new (w := w1) (.mapIter (some m) clock #[] clock)
  go_loopw [4, 5, 12, 13] (fun _ _ _ _ wr => ∃ (seen : Array Nat) (G : List Fl), Hid (TabAt wr mb G) ∧ Hid ((abs G ++ (restL (arr.toList.zip F) seen).map (fun x => (x.nm, x.b, x.safe))).Perm (abs F)) ∧ Hid (Below w.heap.size w wr) ∧ Hid (wr.heap[rb]? = some (.mapIter (some m) clock seen clock)) ∧ Hid (∀ k, TabHas mb G k → w.heap.size ≤ k ∧ k ≠ rb) ∧ rb < wr.heap.size) (fun _ _ _ _ wr => (leftOf arr (wr.iterSeen rb)).size)
  case atStart =>
    refine ⟨#[], [], ⟨HM1.out.below hb2, by simp, by simp, by simp, by simp⟩, ?_, HB1.out.trans (hb2.mono HB1.out.size), by show _ = _; rw [hrb]; exact heap_alloc_new _ _, fun k hk => ?_, by rw [hrb]; simp⟩
    · show List.Perm _ _
      rw [restL_all, HZS.out]; exact List.Perm.refl _
    · rcases hk with rfl | ⟨x, hx, -⟩
      · exact ⟨by have := HMB.out; omega, by omega⟩
      · cases hx
  case round =>
    clear hb2 hrb
    obtain ⟨seen, G, HT, HP, HW, HR, HHas, hrl⟩ := hrel
    have hml := HH.out.tab.map.lt
    have hbw : wr.heap[m]? = some (.map arr clock) := by
      have e1 := (HW.out.block m hml)
      have e2 := (HB1.out.block m hml)
      rw [e1, ← e2]; exact HBM.out
    rcases run_next_at (P := Try.prog) wr 0 rb m clock clock seen arr clock HR.out hbw HBO.out (Nat.le_refl _) with ⟨h0, hrun⟩ | ⟨e, he, w2, hw2, hrun⟩
    · have hrun' : ∀ ty, (Instr.next (.pointer (some ⟨rb, 0, none⟩)) false ty).run Try.prog wr = _ := fun _ => hrun
      have HQ : Hid ((abs G).Perm (abs F)) := by
        show List.Perm _ _
        have h1 := HP.out
        rw [restL_none h0 (fun p hp => (List.of_mem_zip hp).1), List.map_nil, List.append_nil] at h1
        exact h1
      have HHw := hid (HH.out.below HW.out)
      have d1 := HHw.out.obj.cell 1 (.int .i64 cap) rfl
      have hs := HW.out.size
      clear hrun h0 hbw HP HE HBO HND HBM HZF HZS HR
      go_wp2_with fail
      go_ret
      have hb9 := below_new (w := wr) (.cells #[.map (some mb), .int .i64 cap] 57)
      refine ⟨wr.heap.size, mb, G, rfl, ⟨ObjAt.new _ _ _, HT.out.below hb9⟩, HQ.out, HW.out.trans (hb9.mono hs), fun k hk => ?_⟩
      rcases hk with rfl | hk
      · exact hs
      · exact (HHas.out k hk).1
    · obtain ⟨hmem, hns⟩ := mem_left he
      obtain ⟨x, hzip, hx, q1, q2⟩ := zip_at HE.out hmem
      have hst := restL_step (arr.toList.zip F) seen (e, x) (by
          have : (arr.toList.zip F).map (fun p => p.1.born) = ((arr.toList.zip F).map Prod.fst).map (·.born) := by rw [List.map_map]; rfl
          rw [this, HZF.out]; exact HND.out) hzip (by simpa using hns)
      have HP2 : Hid ((abs G ++ [(x.nm, x.b, x.safe)] ++ (restL (arr.toList.zip F) (seen.push e.born)).map (fun x => (x.nm, x.b, x.safe))).Perm (abs F)) := by
        show List.Perm _ _
        refine List.Perm.trans ?_ HP.out
        rw [List.append_assoc]
        refine List.Perm.append_left _ ?_
        have := (hst.map (fun x : Fl => (x.nm, x.b, x.safe))).symm
        exact this
      have HNEW : Hid (x.nm ∉ (G.map flEnt).map (·.1)) := by
        intro hin
        have hp := HP2.out
        have hnd : ((abs F).map Prod.fst).Nodup := by rw [← names_abs]; exact HH.out.tab.names
        have := (hp.map Prod.fst).nodup_iff.2 hnd
        rw [List.map_append, List.map_append] at this
        have h1 := (List.nodup_append.1 this).1
        have h2 := (List.nodup_append.1 h1).2.2
        obtain ⟨p, hp1, hp2⟩ := List.mem_map.1 hin
        obtain ⟨y, hy, rfl⟩ := List.mem_map.1 hp1
        exact h2 x.nm (List.mem_map.2 ⟨(y.nm, y.b, y.safe), List.mem_map.2 ⟨y, hy, rfl⟩, hp2⟩) x.nm (by simp) rfl
      rw [q1, q2] at hrun
      have hz2 : w2.heap = wr.heap := by rcases hw2 with rfl | rfl <;> rfl
      have hblr : Below wr.heap.size wr w2 := by
        rcases hw2 with rfl | rfl
        · exact Below.refl _ _
        · exact below_drewN' 1
      have HR2 : Hid ((setBlock w2 rb (.mapIter (some m) clock (seen.push e.born) clock)).heap[rb]? = some (.mapIter (some m) clock (seen.push e.born) clock)) := by
        show (w2.heap.setIfInBounds _ _)[_]? = _
        rw [hz2]; simp [hrl]
      have hkr : KeptS (fun k => k = rb) wr (setBlock w2 rb (.mapIter (some m) clock (seen.push e.born) clock)) := (KeptS.of_below hblr).next (KeptS.of_kept (kept_setMap (w := w2) (m := rb) (o := .mapIter (some m) clock (seen.push e.born) clock)) rfl)
      have hrbw : w.heap.size ≤ rb := by have := HRB.out; have := HB1.out.size; omega
      have HW2 := hid (HW.out.trans (hkr.below (fun k e => by omega) HW.out.size))
      have HT2 := hid (HT.out.keptS hkr (fun k hk e => (HHas.out k hk).2 e))
      have hrl2 : rb < (setBlock w2 rb (.mapIter (some m) clock (seen.push e.born) clock)).heap.size := Nat.lt_of_lt_of_le hrl hkr.size
      have hrun' : ∀ ty, (Instr.next (.pointer (some ⟨rb, 0, none⟩)) false ty).run Try.prog wr = _ := fun _ => hrun
      have HI : Hid (wr.iterSeen rb = seen) := by show _ = _; unfold World.iterSeen; rw [HR.out]
      have HSH := hid (left_shrinks arr seen e he)
      have hbw2 : (setBlock w2 rb (.mapIter (some m) clock (seen.push e.born) clock)).heap[m]? = some (.map arr clock) := by
        have e1 := (HW2.out.block m hml)
        have e2 := (HB1.out.block m hml)
        rw [e1, ← e2]; exact HBM.out
      have hen := run_entry_at (P := Try.prog) _ rb m clock seen arr clock e HR2.out hbw2 hmem HND.out
      rw [q1, q2] at hen
      clear hbw hz2 hblr hbw2 hw2 HR HW hrun he HP HT hkr hst
      generalize setBlock w2 rb (.mapIter (some m) clock (seen.push e.born) clock) = W at *
      have hro := HH.out.tab.row x hx
      have HBY := hid (hro.bytes.below HW2.out)
      obtain ⟨va, vc, hve, -, -, hv1, hv2⟩ := hro.bytes
      have s0 := ((HH.out.tab.obj x hx).below HW2.out).cell 0 x.v rfl
      have s1 := ((HH.out.tab.obj x hx).below HW2.out).cell 1 (.int .i64 (x.safe : Nat)) rfl
      have hxf : x.f < W.heap.size := ((HH.out.tab.obj x hx).below HW2.out).lt
      have hxl : x.b.length ≤ 1073741824 := Nat.le_trans (total_le hx) ht
      rw [hve] at s0 HBY
      clear hve hro hzip q1 q2
      go_upto_region 5 with fail
      go_region_with (go_at_call 35; refine (bytes_clone _ x.b _ (HBY.out.below (below_drewN' 1)) (by omega)).mono ?_; rintro e3 w3 ⟨v, rfl, hov, hb⟩; obtain ⟨va3, vc3, rfl, -, -⟩ := owns_row hov; have HOV := hid hov; have HB3 : Hid (Below W.heap.size W w3) := ⟨hb.os, hb.tape, hb.output, hb.size, hb.block⟩; have s3 := (HB3.out.cell (p := ⟨x.f, 1, none⟩) hxf).trans s1; obtain ⟨w5, hup, hm5, hk5, hz5, -⟩ := run_upd (P := Try.prog) Try.underlying55 keyT (w := w3.alloc (.cells #[.slice va3 x.b.length vc3, .int .i64 (x.safe : Nat)] 69)) ((HT2.out.map.below HB3.out).below (below_new _)) x.nm (.pointer (some ⟨w3.heap.size, 0, none⟩)); have HM5 := hid hm5; have HK5 := hid hk5; have HZ5 := hid hz5; clear hov hb hm5 hk5 hz5)
      all_goals
        have hmbW : mb < W.heap.size := HT2.out.map.lt
        have hkm : KeptS (fun k => k = mb) W w5 := ((KeptS.of_below HB3.out).next (KeptS.of_below (below_new (w := w3) (.cells #[.slice va3 x.b.length vc3, .int .i64 (x.safe : Nat)] 69)))).next (KeptS.of_kept HK5.out rfl)
        have hk5 : KeptS (fun k => k = mb) (w3.alloc (.cells #[.slice va3 x.b.length vc3, .int .i64 (x.safe : Nat)] 69)) w5 := KeptS.of_kept HK5.out rfl
        have hs3 : W.heap.size ≤ w3.heap.size := HB3.out.size
        have hgb : ∀ k, (Value.slice va3 x.b.length vc3).ownBlock = some k → W.heap.size ≤ k := fun k e => (own_lt HOV.out k e).1
        have hm6 := HM5.out
        rw [upd_new HNEW.out] at hm6
        have HT5 : Hid (TabAt w5 mb (G ++ [⟨x.nm, w3.heap.size, .slice va3 x.b.length vc3, x.b, (Value.slice va3 x.b.length vc3).ownBlock, x.safe⟩])) :=
          HT2.out.push2 hm6 hkm ((ObjAt.new w3 69 #[.slice va3 x.b.length vc3, .int .i64 (x.safe : Nat)]).keptS hk5 (by omega)) (((RowOf.of_own HOV.out).below (below_new _)).keptS hk5 (fun k e => by have := hgb k e; omega)) hs3 hgb
        have HP5 : Hid ((abs (G ++ [⟨x.nm, w3.heap.size, .slice va3 x.b.length vc3, x.b, (Value.slice va3 x.b.length vc3).ownBlock, x.safe⟩]) ++ (restL (arr.toList.zip F) (seen.push e.born)).map (fun x => (x.nm, x.b, x.safe))).Perm (abs F)) := by
          show List.Perm _ _
          have e1 : abs (G ++ [⟨x.nm, w3.heap.size, .slice va3 x.b.length vc3, x.b, (Value.slice va3 x.b.length vc3).ownBlock, x.safe⟩]) = abs G ++ [(x.nm, x.b, x.safe)] := by unfold abs; rw [List.map_append]; rfl
          rw [e1]; exact HP2.out
        have hmw : w.heap.size ≤ mb := by have := HMB.out; omega
        have hWs : w.heap.size ≤ W.heap.size := HW2.out.size
        have HW5 := hid (HW2.out.trans (hkm.below (fun k e => by omega) HW2.out.size))
        have hrm : rb ≠ mb := by have := HRB.out; omega
        have HR5 : Hid (w5.heap[rb]? = some (.mapIter (some m) clock (seen.push e.born) clock)) := (hkm.block rb hrl2 hrm).trans HR2.out
        have hrl5 : rb < w5.heap.size := Nat.lt_of_lt_of_le hrl2 hkm.size
        have HHas5 : Hid (∀ k, TabHas mb (G ++ [⟨x.nm, w3.heap.size, .slice va3 x.b.length vc3, x.b, (Value.slice va3 x.b.length vc3).ownBlock, x.safe⟩]) k → w.heap.size ≤ k ∧ k ≠ rb) := fun k hk => by
          rcases hk with rfl | ⟨y, hy, hyk⟩
          · exact ⟨hmw, fun e => hrm e.symm⟩
          · rcases List.mem_append.1 hy with hy | hy
            · exact HHas.out k (.inr ⟨y, hy, hyk⟩)
            · rw [List.mem_singleton.1 hy] at hyk
              rcases hyk with hyk | hyk
              · have : w3.heap.size = k := hyk
                exact ⟨by omega, by omega⟩
              · have := hgb k hyk
                exact ⟨by omega, by omega⟩
        clear hm6 hkm hk5 hgb hup s3 s0 s1 hen hrun'
        go_wp2_with fail
        go_roundw
        case rel => exact ⟨_, _, HT5, HP5, HW5, HR5, HHas5, hrl5⟩
        case measure =>
          rw [HI.out]
          have : w5.iterSeen rb = seen.push e.born := by unfold World.iterSeen; rw [HR5.out]
          rw [this]
          exact HSH.out
end Go.Proofs.Ytibhkkfbhbnmeaa
