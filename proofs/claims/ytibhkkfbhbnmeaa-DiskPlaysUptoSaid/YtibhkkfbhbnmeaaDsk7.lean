/-
  Append.
-/
import Derived.Test.YtibhkkfbhbnmeaaDsk8
import Derived.Lib.AppendZeros
import Derived.Deep.RegionWith
import Derived.Deep.Cut
import Derived.Deep.CutBlock
namespace Go.Proofs.Ytibhkkfbhbnmeaa
open Go.RowKit Go.ChangeMaps
set_option maxRecDepth 20000
set_option linter.unusedVariables false

theorem app_mem {w w3 : World} {m : Nat} {F : List Fl} {x : Fl} {v' : Value} {g' : Option Nat} {b' : List UInt8} (h : TabAt w m F) (hx : x ∈ F) (hro : RowOf w3 v' b' g') (hgr : w.grownBy w3 x.g) (hg' : ∀ k, g' = some k → x.g = some k ∨ k = w.heap.size) :
    ObjAt w3 x.f 69 #[x.v, .int .i64 (x.safe : Nat)] ∧ TabAt (w3.setCell ⟨x.f, 0, none⟩ v') m (setF F x.nm v' b' g' x.safe) ∧ KeptS (fun k => k = x.f ∨ x.g = some k) w (w3.setCell ⟨x.f, 0, none⟩ v') := by
  have hox := h.obj x hx
  have hxl := hox.lt
  have ho3 : ObjAt w3 x.f 69 #[x.v, .int .i64 (x.safe : Nat)] := hox.keptS (KeptS.grown hgr) (fun e => by
    have := h.row x hx
    rw [e] at this
    exact this.ne_obj hox rfl)
  have hk : KeptS (fun k => k = x.f ∨ x.g = some k) w (w3.setCell ⟨x.f, 0, none⟩ v') := (((KeptS.grown hgr).imp (fun k e => .inr e)).trans (KeptS.set (S := fun k => k = x.f) w3 ⟨x.f, 0, none⟩ v' rfl) (fun i _ e => .inl e))
  have hro4 : RowOf (w3.setCell ⟨x.f, 0, none⟩ v') v' b' g' := hro.keptS (KeptS.set (S := fun k => k = x.f) w3 ⟨x.f, 0, none⟩ v' rfl) (fun k e q => by
    rw [e] at hro
    exact hro.ne_obj ho3 q)
  refine ⟨ho3, h.seF hx (ho3.set 0 v') hro4 hk (fun k e => (hg' k e).imp_right (fun q => by omega)), hk⟩
theorem upd_new {κ : Type} [DecidableEq κ] {l : List (κ × Value)} {k : κ} {v : Value} (h : k ∉ l.map (·.1)) : upd l k v = l ++ [(k, v)] := by
  unfold upd
  have : l.findIdx? (fun p => p.1 == k) = none := by
    rw [List.findIdx?_eq_none_iff]
    intro p hp
    have : p.1 ≠ k := fun e => h (List.mem_map.2 ⟨p, hp, e⟩)
    simpa using this
  rw [this]
theorem no_file {F : List Fl} {nm : List UInt8} (h : fileOf F nm = none) : nm ∉ (F.map flEnt).map (·.1) := by
  intro hm
  rw [List.map_map] at hm
  obtain ⟨x, hx, e⟩ := List.mem_map.1 hm
  unfold fileOf at h
  have := List.find?_eq_none.1 h x hx
  exact this (decide_eq_true (show x.nm = nm from e))

theorem disk_off {w : World} {d : Nat} {cs cs' : Array Value} {x : Fl} (hd : ObjAt w d 57 cs) (ho : ObjAt w x.f 69 cs') (hr : RowOf w x.v x.b x.g) : ¬ (d = x.f ∨ x.g = some d) := by
  rintro (e | e)
  · exact ObjAt.ne_obj hd ho (by decide) e
  · rw [e] at hr
    rcases hr with ⟨-, -, h⟩ | ⟨k', cap, cur, e2, -, hg, -⟩
    · cases h
    · cases e2
      exact ObjAt.ne_obj (t := 5) (by exact hg) hd (by decide) rfl
theorem IsBytes.keptM {w w' : World} {v : Value} {l : List UInt8} {m : Nat} {κ : Type} {enc : κ → Value} {es : List (κ × Value)} (h : IsBytes w v l) (hk : KeptS (fun k => k = m) w w') (hm : MapAt w m enc es) : IsBytes w' v l := by
  obtain ⟨a, c, rfl, hr, h0, h1, h2⟩ := h
  refine ⟨a, c, rfl, ?_, h0, h1, h2⟩
  cases l with
  | nil => exact RowAt.nil _ _
  | cons x l =>
    refine hr.keptS hk (fun ad e e2 => ?_)
    obtain ⟨b, o, rfl, hc⟩ := hr 0 (byt x) rfl
    cases e
    obtain ⟨arr, clock, hh, -⟩ := hm
    unfold World.cell? at hc
    rw [show b = m from e2, hh] at hc
    cases hc

/-- What Append tells: the error's number. -/
def appE (F : List Fl) (cap : Int) (nm l : List UInt8) : Int := if fname nm then (if cap < (total F : Int) + l.length then 32 else 0) else 30
/-- The state behind it. -/
def appA (A : List Ab) (nm l : List UInt8) : List Ab := if A.any (fun a => decide (a.1 = nm)) then A.map (fun a => if a.1 = nm then (a.1, a.2.1 ++ l, a.2.2) else a) else A ++ [(nm, l, 0)]
theorem appA_old {F : List Fl} {x : Fl} {l : List UInt8} (hn : (F.map Fl.nm).Nodup) (hx : x ∈ F) : setA (abs F) x.nm (x.b ++ l) x.safe = appA (abs F) x.nm l := by
  have : (abs F).any (fun a => decide (a.1 = x.nm)) = true := by
    rw [List.any_eq_true]
    exact ⟨(x.nm, x.b, x.safe), List.mem_map.2 ⟨x, hx, rfl⟩, by simp⟩
  unfold appA
  rw [if_pos this]
  unfold setA abs
  rw [List.map_map, List.map_map]
  refine List.map_congr_left fun y hy => ?_
  show (if y.nm = x.nm then (y.nm, x.b ++ l, x.safe) else (y.nm, y.b, y.safe)) = if y.nm = x.nm then (y.nm, y.b ++ l, y.safe) else (y.nm, y.b, y.safe)
  by_cases e : y.nm = x.nm
  · obtain rfl := inj_nm hn hy hx e
    rfl
  · rw [if_neg e, if_neg e]
theorem appA_new {F : List Fl} {nm l : List UInt8} (h : fileOf F nm = none) : appA (abs F) nm l = abs F ++ [(nm, l, 0)] := by
  have : (abs F).any (fun a => decide (a.1 = nm)) = false := by
    rw [List.any_eq_false]
    intro a ha
    obtain ⟨x, hx, rfl⟩ := List.mem_map.1 ha
    unfold fileOf at h
    exact List.find?_eq_none.1 h x hx
  unfold appA
  rw [this]
  rfl

theorem setA_new {F : List Fl} {x : Fl} {l : List UInt8} (h : fileOf F x.nm = none) (hb : x.b = []) (hs : x.safe = 0) : setA (abs (F ++ [x])) x.nm (x.b ++ l) x.safe = abs F ++ [(x.nm, l, 0)] := by
  unfold setA abs
  rw [List.map_append, List.map_append]
  congr 1
  · rw [List.map_map]
    refine List.map_congr_left fun y hy => ?_
    show (if y.nm = x.nm then _ else _) = _
    unfold fileOf at h
    rw [if_neg (by simpa using List.find?_eq_none.1 h y hy)]
  · simp [hb, hs]

set_option maxHeartbeats 4000000 in
theorem disk_append (d m : Nat) (cap : Int) (F : List Fl) (s : ByteArray) (v2 : Value) (l : List UInt8) (w : World) (h : DkAt w d m cap F) (hv : IsBytes w v2 l) (hoff : ∀ k, v2.ownBlock = some k → ¬ TabHas m F k) (ht : (total F : Int) ≤ cap) (hcap : cap ≤ 1073741824) (hl : l.length ≤ 1099511627776) :
    Calls Try.prog 7 #[.pointer (some ⟨d, 0, none⟩), .string s, v2] w (DiskPost w d m cap F (appE F cap (bl s) l) (if appE F cap (bl s) l = 0 then appA (abs F) (bl s) l else abs F)) := by
  have HH := hid h
  have HV := hid hv
  have HOFF := hid hoff
  obtain ⟨va, vc, rfl, -⟩ := id hv
  obtain ⟨z, hz⟩ : ∃ z, z = appE F cap (bl s) l := ⟨_, rfl⟩
  rw [← hz]
  obtain ⟨A', hA'⟩ : ∃ A', A' = if z = 0 then appA (abs F) (bl s) l else abs F := ⟨_, rfl⟩
  rw [← hA']
  have HZ := hid hz
  have HA' := hid hA'
  clear h hv hoff hz hA'
  go_enter Try.func7, Try.ntmps7
  go_wp2_with fail
  refine (right_name s w).mono ?_
  rintro e w1 ⟨rfl, hb⟩
  have HH1 := hid (HH.out.below hb)
  have HM1 := hid (Moved.below (m := m) (F := F) hb)
  have HV1 := hid (HV.out.below hb)
  clear hb HH HV
  cases hf : fname s.data.toList with
  | false =>
    have HE : Hid (z = 30) := by show _ = _; rw [HZ.out]; unfold appE; rw [show fname (bl s) = false from hf]; rfl
    clear hf HZ
    go_wp2_with fail
    go_ret
    exact ⟨by rw [HE.out]; rfl, F, HH1.out, by rw [HA'.out, HE.out]; rfl, HM1.out⟩
  | true =>
    have HE : Hid (z = if cap < (total F : Int) + l.length then 32 else 0) := by show _ = _; rw [HZ.out]; unfold appE; rw [show fname (bl s) = true from hf]; rfl
    clear hf HZ
    have c0 := HH1.out.obj.cell 0 _ rfl
    have c1 := HH1.out.obj.cell 1 _ rfl
    have hcap2 : total F ≤ 1073741824 := by omega
    have hcap3 : 0 ≤ cap := by omega
    have hws : IntKind.i64.wrap (cap - ((total F : Nat) : Int)) = cap - ((total F : Nat) : Int) := by rw [IntKind.wrap_i64]; omega
    obtain ⟨tt, htt⟩ : ∃ tt : Int, tt = ((total F : Nat) : Int) := ⟨_, rfl⟩
    have HTT := hid htt
    have ht0 : 0 ≤ tt := by omega
    have ht1 : tt ≤ cap := by omega
    have hws2 : IntKind.i64.wrap (cap - tt) = cap - tt := by rw [htt]; exact hws
    rw [← htt] at HE
    have hu : Calls Try.prog 20 #[.map (some m)] w1.drew fun e w' => e = .returned (.int .i64 tt) ∧ Below w1.heap.size w1 w' := by
      rw [htt]
      exact (tab_used m F _ (HH1.out.tab.below (below_drewN' 1)) (Nat.le_trans hcap2 (by decide))).mono fun e w' h => ⟨h.1, ⟨h.2.os, h.2.tape, h.2.output, h.2.size, h.2.block⟩⟩
    have HU := hid hu
    clear htt hws hu ht
    by_cases hgt : cap - tt < (l.length : Int)
    · go_wp2_with fail
      go_region_with (
        go_at_call 20
        refine HU.out.mono ?_
        rintro e w2 ⟨rfl, hb⟩
        have HB2 := hid hb
        have d1 := (HH1.out.obj.below HB2.out).cell 1 _ rfl
        clear hb)
      all_goals
        have HE32 : Hid (z = 32) := by show _ = _; rw [HE.out, if_pos (by omega)]
        go_wp2_with fail
        go_ret
        exact ⟨by rw [HE32.out]; rfl, F, HH1.out.below HB2.out, by rw [HA'.out, HE32.out]; rfl, HM1.out.trans (Moved.below HB2.out)⟩
    · go_wp2_with fail
      go_region_with (
        go_at_call 20
        refine HU.out.mono ?_
        rintro e w2 ⟨rfl, hb⟩
        have HB2 := hid hb
        have d1 := (HH1.out.obj.below HB2.out).cell 1 _ rfl
        clear hb)
      all_goals
        have HE0 : Hid (z = 0) := by show _ = _; rw [HE.out, if_neg (by omega)]
        have HA0 : Hid (A' = appA (abs F) (bl s) l) := by show _ = _; rw [HA'.out, if_pos HE0.out]
        have HH2 := hid (HH1.out.below HB2.out)
        have HM2 := hid (HM1.out.trans (Moved.below (m := m) (F := F) HB2.out))
        have HV2 := hid (HV1.out.below HB2.out)
        have hl2 := run_file HH2.out.tab s
        have d0 := HH2.out.obj.cell 0 _ rfl
        clear HB2 d1 HE HA' HH1 HM1 HV1 c0 c1 HU hws2 HOFF
        cases hff : fileOf F (bl s) with
        | some x =>
          rw [hff] at hl2
          simp only [Option.map_some, Option.getD_some, fptr] at hl2
          obtain ⟨hx, hxn⟩ := fileOf_mem hff
          have HX := hid hx
          have HXN := hid hxn
          have HT3 := hid HH2.out.tab
          have HD3 := hid HH2.out.obj
          have HM3 := hid HM2.out
          have hxl := total_le hx
          obtain ⟨v', w3, g', hrun, hro, hgr, hg'⟩ := run_append_rowof (HH2.out.tab.row x hx) HV2.out (by omega) 32
          obtain ⟨va', vc', hve, -⟩ := id hro.bytes
          obtain ⟨nn, hnn⟩ : ∃ nn, nn = (x.b ++ l).length := ⟨_, rfl⟩
          rw [← hnn] at hve
          subst hve
          clear hnn
          obtain ⟨ho3, ht4, hk4⟩ := app_mem HT3.out HX.out hro hgr hg'
          have x0 := (HT3.out.obj x HX.out).cell 0 x.v rfl
          have y0 := ho3.cell 0 x.v rfl
          have g0 := ho3.frozen 0
          have HD4 := hid (HD3.out.keptS hk4 (disk_off HD3.out (HT3.out.obj x HX.out) (HT3.out.row x HX.out)))
          have HT4 := hid ht4
          have HM4 : Hid (Moved w (w3.setCell ⟨x.f, 0, none⟩ (.slice va' nn vc')) m F (setF F x.nm (.slice va' nn vc') (x.b ++ l) g' x.safe)) := (HM3.out.trans ⟨setF_has HX.out (fun k e => (hg' k e).imp_right (fun q => Nat.le_of_eq q.symm)), hk4.imp (fun k e => .inr ⟨x, HX.out, e.imp Eq.symm id⟩)⟩)
          clear ht4 hk4 ho3 hro hgr hg'
          have HAB : Hid (abs (setF F x.nm (.slice va' nn vc') (x.b ++ l) g' x.safe) = A') := by
            show _ = _
            rw [abs_setF, appA_old HT3.out.names HX.out, HA0.out, HXN.out]
          clear hff hx hxn HH2 HM2 HM3 HD3 HT3
          go_wp2_with (at_builtin; refine Lib.wpList_append_run _ rfl _ _ _ _ rfl _ _ rfl rfl _ _ hrun ?_)
          go_ret
          exact ⟨by rw [HE0.out]; rfl, _, ⟨HD4.out, HT4.out⟩, HAB.out, HM4.out⟩
        | none =>
          rw [hff] at hl2
          simp only [Option.map_none, Option.getD_none] at hl2
          have hbn := below_new (w := w2) (.cells #[.slice none 0 0, .int .i64 0] 69)
          have d0a := (HH2.out.obj.below hbn).cell 0 _ rfl
          have HOX := hid (ObjAt.new w2 69 #[.slice none 0 0, .int .i64 0])
          obtain ⟨w3, hup, hm3, hk3, hz3, hd3⟩ := run_upd (P := Try.prog) Try.underlying55 keyT (w := w2.alloc (.cells #[.slice none 0 0, .int .i64 0] 69)) (HH2.out.tab.map.below hbn) (bl s) (.pointer (some ⟨w2.heap.size, 0, none⟩))
          rw [← str_tkey] at hup
          rw [upd_new (no_file hff)] at hm3
          have hkm : KeptS (fun k => k = m) w2 w3 := (KeptS.of_below hbn).next (KeptS.of_kept hk3 rfl)
          have hml := HH2.out.tab.map.lt
          obtain ⟨x, hxe⟩ : ∃ x : Fl, x = ⟨bl s, w2.heap.size, .slice none 0 0, [], none, 0⟩ := ⟨_, rfl⟩
          have ht3 : TabAt w3 m (F ++ [x]) := by
            rw [hxe]
            exact HH2.out.tab.push hm3 hkm (HOX.out.kept hk3 (by omega)) (.inl ⟨rfl, rfl, rfl⟩) (Nat.le_refl _) rfl
          have hx : x ∈ F ++ [x] := by simp
          have HX := hid hx
          have HT3 := hid ht3
          have HD3 := hid (HH2.out.obj.keptS hkm (fun e => HH2.out.obj.ne_map HH2.out.tab.map e))
          have HM3 : Hid (Moved w w3 m F (F ++ [x])) := HM2.out.trans ⟨(fun k hk => by
            rcases hk with h | ⟨y, hy, h⟩
            · exact .inl (.inl h)
            · rcases List.mem_append.1 hy with hy | hy
              · exact .inl (.inr ⟨y, hy, h⟩)
              · rw [List.mem_singleton.1 hy, hxe] at h
                rcases h with h | h
                · exact .inr (Nat.le_of_eq h)
                · cases h), hkm.imp (fun k e => .inl e)⟩
          have hv3 : IsBytes w3 (.slice va l.length vc) l := HV2.out.keptM hkm HH2.out.tab.map
          have hxb : x.b = [] := by rw [hxe]
          obtain ⟨v', w4, g', hrun, hro, hgr, hg'⟩ := run_append_rowof (ht3.row x hx) hv3 (by rw [hxb]; simp; omega) 32
          obtain ⟨va', vc', hve, -⟩ := id hro.bytes
          obtain ⟨nn, hnn⟩ : ∃ nn, nn = (x.b ++ l).length := ⟨_, rfl⟩
          rw [← hnn] at hve
          subst hve
          clear hnn
          obtain ⟨ho3, ht4, hk4⟩ := app_mem HT3.out HX.out hro hgr hg'
          have x0 := (HT3.out.obj x HX.out).cell 0 x.v rfl
          have y0 := ho3.cell 0 x.v rfl
          have g0 := ho3.frozen 0
          have HD4 := hid (HD3.out.keptS hk4 (disk_off HD3.out (HT3.out.obj x HX.out) (HT3.out.row x HX.out)))
          have HT4 := hid ht4
          have HM4 : Hid (Moved w (w4.setCell ⟨x.f, 0, none⟩ (.slice va' nn vc')) m F (setF (F ++ [x]) x.nm (.slice va' nn vc') (x.b ++ l) g' x.safe)) := (HM3.out.trans ⟨setF_has HX.out (fun k e => (hg' k e).imp_right (fun q => Nat.le_of_eq q.symm)), hk4.imp (fun k e => .inr ⟨x, HX.out, e.imp Eq.symm id⟩)⟩)
          clear ht4 hk4 ho3 hro hgr hg'
          have HAB : Hid (abs (setF (F ++ [x]) x.nm (.slice va' nn vc') (x.b ++ l) g' x.safe) = A') := by
            show _ = _
            rw [abs_setF, HA0.out, appA_new hff]
            have := setA_new (l := l) (F := F) (x := x) (by rw [hxe]; exact hff) hxb (by rw [hxe])
            rw [this, hxe]
          have hxf : x.f = w2.heap.size := by rw [hxe]
          have hxv : x.v = .slice none 0 0 := by rw [hxe]
          rw [hxv] at hrun x0 y0
          rw [hxf] at x0 y0 g0 HT4 HM4 HD4
          clear hff hx hxe HH2 HM2 HM3 HD3 HT3 ht3 hv3 hkm hbn HOX hm3 hk3 hz3 hd3 hxb hxf hxv
          go_wp2_with (at_builtin; refine Lib.wpList_append_run _ rfl _ _ _ _ rfl _ _ rfl rfl _ _ hrun ?_)
          go_ret
          exact ⟨by rw [HE0.out]; rfl, _, ⟨HD4.out, HT4.out⟩, HAB.out, HM4.out⟩
end Go.Proofs.Ytibhkkfbhbnmeaa
