/-
  Keys of one home.
-/
import Derived.Test.YtdieomhddnhfoaaTb5
import Derived.Deep.RegionWith
namespace Go.Proofs.Ytdieomhddnhfoaa
open Go.RowKit Go.ChangeMaps
set_option maxRecDepth 20000
set_option linter.unusedVariables false

def idx1 (a b : List UInt8) : Int := if a = b then 0 else -1
theorem index_one (b o c : Nat) (x y : List UInt8) (w : World) (hc : w.cell? ⟨b, o, none⟩ = some (tkey x)) :
    Calls Try.prog 28 #[.slice (some ⟨b, o, none⟩) 1 c, tkey y] w fun e w' => e = .returned (.int .i64 (idx1 y x)) ∧ w = w' := by
  unfold idx1
  by_cases h : y = x
  · rw [if_pos h]
    have e1 : (y == x) = true := by rw [h]; exact beq_self_eq_true _
    have e2 : @BEq.beq _ List.instBEq y x = true := by rw [h]; exact beq_self_eq_true _
    clear h
    go_enter Try.func28, Try.ntmps28
    go_wp2_with fail
    refine wp_loop_rounds 2 ?_
    rw [rounds_succ]
    go_wp2_with fail
    go_ret
    exact ⟨rfl, rfl⟩
  · rw [if_neg h]
    have e1 : (y == x) = false := by rw [beq_dec]; exact decide_eq_false h
    have e2 : @BEq.beq _ List.instBEq y x = false := beq_eq_false_iff_ne.2 h
    clear h
    go_enter Try.func28, Try.ntmps28
    go_wp2_with fail
    refine wp_loop_rounds 2 ?_
    rw [rounds_succ]
    go_wp2_with fail
    rw [rounds_succ]
    go_wp2_with fail
    go_ret
    exact ⟨rfl, rfl⟩
theorem contains_one (b o c : Nat) (x y : List UInt8) (w : World) (hc : w.cell? ⟨b, o, none⟩ = some (tkey x)) :
    Calls Try.prog 24 #[.slice (some ⟨b, o, none⟩) 1 c, tkey y] w fun e w' => e = .returned (.bool (decide (y = x))) ∧ w = w' := by
  go_enter Try.func24, Try.ntmps24
  go_wp2_with fail
  refine (index_one b o c x y _ hc).mono ?_
  rintro e w1 ⟨rfl, rfl⟩
  unfold idx1
  by_cases h : y = x
  · rw [if_pos h]
    have HH := hid h
    clear h
    go_wp2_with fail
    go_ret
    exact ⟨by rw [decide_eq_true HH.out]; rfl, rfl⟩
  · rw [if_neg h]
    have HH := hid h
    clear h
    go_wp2_with fail
    go_ret
    exact ⟨by rw [decide_eq_false HH.out]; rfl, rfl⟩
/-- The keys of one home. -/
def keysOf (H : List Hs) (nm : List UInt8) : List (List UInt8 × Int) := match seekH H nm with | some x => (sortI (x.live.map Sn.n)).map fun n => (nm, n) | none => []
theorem infoKey : (Try.prog.info? 30).map (fun i => (i.zero, i.size, i.bytes)) = some (some (.agg #[.string ⟨#[]⟩, .int .i64 0]), 2, 24) := by kernel_rfl

/-- 'append(v, u)', one element of several cells. -/
theorem wpList_app_rec {P : Program} {w0 : World} {ops : Array Oper} {rest : List Oper} {o : Oper} {a : Act} {Q : Exit → Act → World → Prop} (hgd : o.guard = Option.none) (s x : Operand) (t : TypeId)
    (ho : o.op = .call { callee := .builtin .append, args := #[s, x], argTypes := #[t, t] })
    (base : Nat) (e : TypeId) {z : Value} {size bytes : Nat} (ht : P.underlying t = some (.slice e)) (hinfo : (P.info? e).map (fun i => (i.zero, i.size, i.bytes)) = some (some z, size, bytes)) (hzs : z.cells.size = size) (hsz : 0 < size)
    (v : Value) (n : Nat) (xs : List Value) (us : Array Value) (hs : a.eval s = v) (hown : w0.ownsRow base e size v n xs)
    (hx : a.eval x = .slice (some ⟨w0.heap.size, 0, Option.none⟩) 1 1) (hl : us.toList.length = size) (hu : ∀ u ∈ us.toList, u.oneCell' = true) (hlen : (n + 1) * bytes ≤ 140737488355328) (h63 : n + 1 ≤ maxLen) (hbase : base ≤ w0.heap.size)
    (h : ∀ v' w1, w1.ownsRow base e size v' (n + 1) (xs ++ us.toList) → Below base w0 w1 → wpList P ops Q rest (a.put o.dst v') w1) :
    wpList P ops Q (o :: rest) a (w0.alloc (.cells us e)) := by
  refine wpList_app hgd s x t ho base e ht hinfo hzs hsz v n xs hs (hown.alloc _) _ 1 1 us.toList hx (by omega) (RowAt.new _ _ _ _) hu h63 hlen (by simp; omega) (by simp) ?_
  intro v' w1 ho1 hg _
  exact h v' w1 ho1 ((((Below.refl base w0).alloc hbase _).grown hg (by simp; omega) (fun k hk => (hown.lt k hk).1)))
/-- What Keys has behind i homes. -/
def keysTo (H : List Hs) (nm : List UInt8) (i : Nat) : List (List UInt8 × Int) := if nm ∈ (sortT (H.map Hs.nm)).take i then keysOf H nm else []
theorem keysTo_zero (H : List Hs) (nm : List UInt8) : keysTo H nm 0 = [] := by unfold keysTo; simp
theorem keysTo_all (H : List Hs) (nm : List UInt8) {i : Nat} (h : H.length ≤ i) : keysTo H nm i = keysOf H nm := by
  unfold keysTo
  rw [List.take_of_length_le (by rw [sortT_len, List.length_map]; exact h)]
  split
  · rfl
  · rename_i hn
    have hn' : nm ∉ H.map Hs.nm := fun h => hn (sortT_mem.2 h)
    unfold keysOf
    cases e : seekH H nm with
    | none => rfl
    | some x => exact absurd (List.mem_map.2 ⟨x, (seekH_some e).1, (seekH_some e).2⟩) hn'
theorem keysTo_no (H : List Hs) (nm : List UInt8) {i : Nat} (hi : i < (sortT (H.map Hs.nm)).length) (h : (sortT (H.map Hs.nm))[i] ≠ nm) : keysTo H nm (i + 1) = keysTo H nm i := by
  unfold keysTo
  rw [List.take_succ_eq_append_getElem hi]
  have e : (nm ∈ (sortT (H.map Hs.nm)).take i ++ [(sortT (H.map Hs.nm))[i]]) ↔ nm ∈ (sortT (H.map Hs.nm)).take i := by
    rw [List.mem_append, List.mem_singleton]
    exact ⟨fun q => q.elim id (fun q => absurd q.symm h), .inl⟩
  simp only [e]
theorem keysTo_yes (H : List Hs) {i : Nat} (hd : (H.map Hs.nm).Nodup) (hi : i < (sortT (H.map Hs.nm)).length) : keysTo H (sortT (H.map Hs.nm))[i] i = [] ∧ keysTo H (sortT (H.map Hs.nm))[i] (i + 1) = keysOf H (sortT (H.map Hs.nm))[i] := by
  have hn : (sortT (H.map Hs.nm)).Nodup := ((List.mergeSort_perm (H.map Hs.nm) _).nodup_iff).2 hd
  unfold keysTo
  constructor
  · rw [if_neg]
    intro h
    obtain ⟨j, hj, e⟩ := List.mem_iff_getElem.1 h
    rw [List.length_take] at hj
    rw [List.getElem_take] at e
    have hj2 : j < (sortT (H.map Hs.nm)).length := by omega
    exact List.pairwise_iff_getElem.1 hn j i hj2 hi (by omega) e
  · rw [if_pos]
    rw [List.take_succ_eq_append_getElem hi]
    exact List.mem_append.2 (.inr (List.mem_singleton.2 rfl))
theorem row_one {w : World} {a : Option Addr} {vs : List Value} (h : RowAt w a vs) {j : Nat} (hj : j < vs.length) : ∃ b o, a = some ⟨b, o, none⟩ ∧ w.cell? ⟨b, o + j, none⟩ = some vs[j] :=
  h j vs[j] (List.getElem?_eq_getElem hj)
theorem take_k (nm : List UInt8) (K : List Int) {j : Nat} (hj : j < K.length) : ((K.map fun n => (nm, n)).take (j + 1)).flatMap kC = ((K.map fun n => (nm, n)).take j).flatMap kC ++ [tkey nm, .int .i64 K[j]] := by
  rw [List.take_succ_eq_append_getElem (by simpa using hj), List.flatMap_append]
  simp [kC]

set_option maxHeartbeats 4000000 in
theorem tab_keys (bt mh : Nat) (H : List Hs) (nm : List UInt8) (b o c : Nat) (w : World) (h : TabT w bt mh H) (hc : w.cell? ⟨b, o, none⟩ = some (tkey nm)) (hm : H.length ≤ 1048576) (h64 : ∀ x ∈ H, x.live.length ≤ 64) :
    Calls Try.prog 16 #[.pointer (some ⟨bt, 0, none⟩), .slice (some ⟨b, o, none⟩) 1 c] w fun e w' => ∃ v, e = .returned v ∧ w'.ownsRow w.heap.size 30 2 v (keysOf H nm).length ((keysOf H nm).flatMap kC) ∧ Below w.heap.size w w' := by
  have HH := hid h
  have HC := hid hc
  have HL := hid h64
  have hcl := lt_of_cell hc
  clear h hc h64
  go_enter Try.func16, Try.ntmps16
  go_wp2_with fail
  refine (tab_homes bt mh H w HH.out (by omega)).mono ?_
  rintro e w1 ⟨v, rfl, ho, hb⟩
  obtain ⟨va, vc, rfl, hr, -⟩ := owns_row ho
  have HB := hid hb
  have HR := hid hr
  have HB1 := hid (HB.out.size)
  clear hb hr ho
  go_wp2_with fail
  go_loopw [5, 13] (fun s5 s13 wr => ∃ i : Nat, s13 = .int .i64 i ∧ i ≤ H.length ∧ Hid (wr.ownsRow w1.heap.size 30 2 s5 (keysTo H nm i).length ((keysTo H nm i).flatMap kC)) ∧ Hid (Below w1.heap.size w1 wr) ∧ Hid (keysTo H nm i = [] → s5 = .slice none 0 0)) (fun _ s13 _ => H.length - (intOf s13).toNat)
  case atStart => exact ⟨0, rfl, Nat.zero_le _, by rw [keysTo_zero]; exact ⟨rfl, .inl ⟨rfl, rfl⟩⟩, Below.refl _ _, fun _ => rfl⟩
  case round =>
    obtain ⟨i, rfl, hi, HO, HBr, HNil⟩ := hrel
    by_cases hlt : i < H.length
    · have hlt' : i < (sortT (H.map Hs.nm)).length := by rw [sortT_len, List.length_map]; exact hlt
      obtain ⟨b2, o2, rfl, hcell⟩ := row_one (HR.out.below HBr.out) (j := i) (by rw [List.length_map]; exact hlt')
      rw [List.getElem_map] at hcell
      have hc := (HBr.out.cell (p := ⟨b, o, none⟩) (Nat.lt_of_lt_of_le hcl HB1.out)).trans ((HB.out.cell (p := ⟨b, o, none⟩) hcl).trans HC.out)
      obtain ⟨hm, ehm⟩ : ∃ hm, hm = (sortT (H.map Hs.nm))[i] := ⟨_, rfl⟩
      rw [← ehm] at hcell
      have HEH := hid ehm
      clear ehm
      go_wp2_with fail
      refine (contains_one b o c nm hm _ hc).mono ?_
      rintro e w2 ⟨rfl, rfl⟩
      by_cases he : hm = nm
      · have e1 : decide (hm = nm) = true := decide_eq_true he
        have hy := keysTo_yes H HH.out.names hlt'
        rw [← HEH.out, he] at hy
        have h5 := HNil.out (by rw [← HEH.out, he] at *; exact hy.1)
        subst h5
        clear HO HNil
        have HY := hid hy.2
        obtain ⟨x, hx, hxn⟩ := List.mem_map.1 (sortT_mem.1 (List.getElem_mem hlt'))
        rw [← HEH.out] at hxn
        subst he
        have hsk : seekH H hm = some x := by rw [← hxn]; exact seekH_of HH.out.names hx
        have hko : keysOf H hm = (sortI (x.live.map Sn.n)).map fun n => (hm, n) := by unfold keysOf; rw [hsk]
        have HKO := hid hko
        have HT := hid ((HH.out.below HB.out).below HBr.out)
        have HA := hid (HT.out.hs x hx)
        have HL64 := hid (HL.out x hx)
        have c0 := ObjAt.cell HT.out.tab 0 (.map (some mh)) rfl
        have l0 := run_look (w := wr) Try.underlying54 keyT HT.out.map hm (.pointer none) (by kernel_rfl) false
        rw [look_seekH, hsk] at l0
        have l1 : (Instr.lookup 54 (.map (some mh)) (tkey hm) false).run Try.prog wr = .ok (.pointer (some ⟨x.bh, 0, none⟩)) wr := l0
        clear l0 hko hsk hx hxn hy
        go_wp2_with fail
        refine (tab_numbers x wr HA.out (by have := HL64.out; omega)).mono ?_
        rintro e w3 ⟨v, rfl, ho, hb⟩
        obtain ⟨na, nc, rfl, hr3, -⟩ := owns_row ho
        obtain ⟨K, hK⟩ : ∃ K, K = sortI (x.live.map Sn.n) := ⟨_, rfl⟩
        have hKL : x.live.length = K.length := by rw [hK, sortI_len, List.length_map]
        rw [← hK] at hr3
        rw [hKL]
        have HR3 := hid hr3
        have HB3 := hid (below_step HBr.out HBr.out.size hb)
        have HS3 := hid (HB3.out.size)
        have HKK := hid hK
        have hkl : K.length ≤ 64 := by have := HL64.out; omega
        clear hr3 ho hb hK hKL hcell hc c0 l1 HT HA e1
        go_wp2_with fail
        go_loopw [5, 34] (fun s5 s34 wz => ∃ j : Nat, s34 = .int .i64 j ∧ j ≤ K.length ∧ Hid (wz.ownsRow w3.heap.size 30 2 s5 j (((K.map fun n => (hm, n)).take j).flatMap kC)) ∧ Hid (Below w3.heap.size w3 wz) ∧ Hid (j = 0 → s5 = .slice none 0 0)) (fun _ s34 _ => K.length - (intOf s34).toNat)
        case atStart => exact ⟨0, rfl, Nat.zero_le _, ⟨rfl, .inl ⟨rfl, rfl⟩⟩, Below.refl _ _, fun _ => rfl⟩
        case round =>
          obtain ⟨j, rfl, hj, HO, HBz, HNil⟩ := hrel
          by_cases hltj : j < K.length
          · obtain ⟨b3, o3, rfl, hcell⟩ := row_one (HR3.out.below HBz.out) (j := j) (by rw [List.length_map]; exact hltj)
            rw [List.getElem_map] at hcell
            have HTK := hid (take_k hm K hltj)
            have hszz := HBz.out.size
            generalize K[j] = kn at *
            go_wp2_with (at_builtin; refine wpList_app_rec rfl (.tmp 38) (.tmp 42) 45 rfl w3.heap.size 30 Try.underlying45 infoKey rfl (by omega) _ j _ #[tkey hm, .int .i64 kn] rfl HO.out rfl rfl (by simp [Value.oneCell']) (by omega) (by unfold maxLen; omega) hszz ?_; intro v' w4 ho4 hb4; refine Stop.mk ?_)
            refine Stop.go ?_
            have HO4 : Hid (w4.ownsRow w3.heap.size 30 2 v' (j + 1) (((K.map fun n => (hm, n)).take (j + 1)).flatMap kC)) := by
              show World.ownsRow _ _ _ _ _ _ _
              rw [HTK.out]; exact ho4
            have HB4 := hid (HBz.out.trans hb4)
            clear ho4 hb4 hcell HTK HO HBz HNil
            go_wp2_with fail
            go_roundw
            case rel => exact ⟨j + 1, by go_num, by omega, HO4, HB4, fun h => by omega⟩
            case measure => simp [intOf]; omega
          · have hje : j = K.length := by omega
            have HKY : Hid (keysTo H hm (i + 1) = K.map fun n => (hm, n)) := by
              show _ = _
              rw [HY.out, HKO.out, HKK.out]
            have HOE : Hid (wr.ownsRow w1.heap.size 30 2 u5 (keysTo H hm (i + 1)).length ((keysTo H hm (i + 1)).flatMap kC)) := by
              have h := HO.out
              rw [hje, List.take_of_length_le (by simp)] at h
              show World.ownsRow _ _ _ _ _ _ _
              rw [HKY.out, List.length_map]
              exact owns_base h HS3.out
            have HNE : Hid (keysTo H hm (i + 1) = [] → u5 = .slice none 0 0) := fun h => HNil.out (by
              rw [HKY.out] at h
              have : K = [] := by simpa using h
              rw [hje, this]; rfl)
            have HBE := hid (HB3.out.trans (HBz.out.mono HS3.out))
            clear hje HKY HO HNil HBz
            go_wp2_with fail
            go_roundw
            case rel => exact ⟨i + 1, by go_num, by omega, HOE, HBE, HNE⟩
            case measure => simp [intOf]; omega
      · have e1 : decide (hm = nm) = false := decide_eq_false he
        have HK : Hid (keysTo H nm (i + 1) = keysTo H nm i) := keysTo_no H nm hlt' (by rw [← HEH.out]; exact he)
        clear he
        go_wp2_with fail
        go_roundw
        case rel => exact ⟨i + 1, by go_num, by omega, by rw [HK.out]; exact HO, HBr, by rw [HK.out]; exact HNil⟩
        case measure => simp [intOf]; omega
    · have HK := hid (keysTo_all H nm (i := i) (by omega))
      go_wp2_with fail
      go_ret
      have h := HO.out
      rw [HK.out] at h
      exact ⟨_, rfl, owns_base h HB1.out, HB.out.trans (HBr.out.mono HB1.out)⟩
end Go.Proofs.Ytdieomhddnhfoaa
