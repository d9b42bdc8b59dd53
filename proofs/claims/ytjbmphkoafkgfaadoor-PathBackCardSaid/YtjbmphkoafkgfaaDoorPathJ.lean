/-
  The document's Join.
-/
import Derived.Test.YtjbmphkoafkgfaaDoorPathR2
namespace Go.Proofs.YtjbmphkoafkgfaaDoor
open Go.RowKit
set_option maxRecDepth 20000
set_option linter.unusedVariables false

/-- 'append(v, x...)', v nil or the call's own, as a step of a region that draws its order. -/
theorem step_app {P : Program} {w : World} {ops : Array Oper} {o : Oper} {a : Act} {K : Act → World → Prop} {Q : Exit → Act → World → Prop} {E : Prop} (hgd : o.guard = Option.none) (s x : Operand) (t : TypeId)
    (ho : o.op = .call { callee := .builtin .append, args := #[s, x], argTypes := #[t, t] })
    (base : Nat) (e : TypeId) {z : Value} {bytes : Nat} (ht : P.underlying t = some (.slice e)) (hinfo : (P.info? e).map (fun i => (i.zero, i.size, i.bytes)) = some (some z, 1, bytes)) (hzs : z.cells.size = 1)
    (v : Value) (xs news : List Value) (ao : Option Addr) (c : Nat) (hs : a.eval s = v) (hown : w.ownsRow base e 1 v xs.length xs)
    (hx : a.eval x = .slice ao news.length c) (hr : RowAt w ao news) (h0 : ao = Option.none → c = 0) (h1 : ∀ u ∈ news, u.oneCell' = true) (h63 : xs.length + news.length ≤ maxLen) (hlen : (xs.length + news.length) * bytes ≤ 140737488355328) (hbase : base ≤ w.heap.size)
    (h : ∀ v' w1, w1.ownsRow base e 1 v' (xs ++ news).length (xs ++ news) → Below base w w1 → (∀ b vs, RowAt w b vs → (∀ ad, b = some ad → some ad.block ≠ v.ownBlock) → RowAt w1 b vs) → K (a.put o.dst v') w1) :
    if Region.wanted o (yielded ops a.tmps) = true then Oper.wp P o a w K Q else E := by
  rw [if_pos (by simp [Region.wanted, hgd])]
  obtain ⟨i, hi, hz, hsize, hby⟩ := info_parts hinfo
  cases ao with
  | some ad =>
    refine wp_append_own w s x t ho base e i z 1 bytes ht hi hz hsize hby hzs (by omega) v xs.length xs hs hown ad news.length c news hx (by simp) hr.add h1 h63 hlen hbase ?_
    intro v' w1 ho1 hg _
    refine h v' w1 ?_ ((Below.refl base w).grown hg hbase (fun k hk => (hown.lt k hk).1)) (fun b vs hb hne => hb.grown hg hne)
    rw [List.length_append]; exact ho1
  | none =>
    obtain rfl := hr.none
    obtain rfl := h0 rfl
    have hrun := run_append_owned_none (P := P) (w := w) base t o.type e i 1 ht hi v xs.length xs hown
    unfold Oper.wp
    simp only [List.length_nil] at hx
    simp [execOp, ho, resolve, invoke, builtin, hs, hx, hrun, Result.andThen]
    exact h v w (by simpa using hown) (Below.refl _ _) (fun b vs hb _ => hb)

theorem owns_empty {w : World} {base g : Nat} {e : TypeId} (h : w.heap[g]? = some (.cells #[] e (0, 0))) (hb : base ≤ g) : w.ownsRow base e 1 (.slice (some ⟨g, 0, none⟩) 0 0) ([] : List Value).length [] :=
  ⟨rfl, .inr ⟨g, 0, #[], rfl, hb, h, Nat.le_refl _, Nat.zero_le _, rfl, rfl⟩⟩
theorem at_new (w : World) (o : Obj) : (w.alloc o).heap[w.heap.size]? = some o := heap_alloc_new w o
theorem at_old (w : World) (o p : Obj) : ((w.alloc o).alloc p).heap[w.heap.size]? = some o := by
  show ((w.heap.push o).push p)[w.heap.size]? = some o
  rw [Array.getElem?_push, if_neg (by simp), Array.getElem?_push, if_pos rfl]
theorem at_next (w : World) (o p : Obj) : ((w.alloc o).alloc p).heap[w.heap.size + 1]? = some p := by
  show ((w.heap.push o).push p)[w.heap.size + 1]? = some p
  rw [Array.getElem?_push, if_pos (by simp)]
theorem RowAt.drew1 {w : World} {a : Option Addr} {vs : List Value} (h : RowAt w a vs) : RowAt w.drew a vs := h
theorem row_next (w : World) (o : Obj) (x : Value) (e : TypeId) : RowAt ((w.alloc o).alloc (.cells #[x] e)) (some ⟨w.heap.size + 1, 0, none⟩) [x] := by
  have h := RowAt.new (w.alloc o) #[x] e (0, 0)
  rw [show (w.alloc o).heap.size = w.heap.size + 1 from by simp] at h
  exact h
theorem row_old (w : World) (o : Obj) (x : Value) (e : TypeId) : RowAt ((w.alloc (.cells #[x] e)).alloc o) (some ⟨w.heap.size, 0, none⟩) [x] :=
  (RowAt.new w #[x] e (0, 0)).below (below_new o)
theorem join_own {w : World} {base : Nat} {e : TypeId} {v : Value} {L : List (List UInt8)} {n : List UInt8} (h : w.ownsRow base e 1 v ([] ++ L.map txt ++ [Value.string ⟨n.toArray⟩]).length ([] ++ L.map txt ++ [Value.string ⟨n.toArray⟩])) : IsTexts w v (L ++ [n]) := by
  refine owns_texts (base := base) (e := e) ?_
  rw [List.map_append]; exact h
theorem join_own' {w : World} {base : Nat} {e : TypeId} {v : Value} {L : List (List UInt8)} {n : List UInt8} (h : w.ownsRow base e 1 v (L.map txt ++ [Value.string ⟨n.toArray⟩]).length (L.map txt ++ [Value.string ⟨n.toArray⟩])) : IsTexts w v (L ++ [n]) := by
  refine owns_texts (base := base) (e := e) ?_
  rw [List.map_append]; exact h
theorem mk_len8 {ls : List (List UInt8)} (h : ∀ s ∈ ls, nameOk s = true) (h8 : ls.length ≤ 8) : (mkS ls).length ≤ 264 := mk_small h h8
theorem all_txt (l : List (List UInt8)) : ∀ u ∈ l.map txt, u.oneCell' = true := by
  intro u hu
  obtain ⟨_, _, rfl⟩ := List.mem_map.1 hu
  rfl
theorem join_long {p : List UInt8} {ls ns : List (List UInt8)} (hp : parts p = some ls) (k : Nat) (hk : k < ns.length) (h : 8 ≤ (ls ++ ns.take k).length) : joinP p ns = none := by
  unfold joinP
  rw [hp]
  simp only
  by_cases ha : ns.all nameOk = true
  · rw [if_pos ha, parts_make]
    · have hl : (ls ++ ns).length > 8 ∨ (makeS (ls ++ ns)).length > 128 := .inl (by rw [List.length_append] at h ⊢; have h3 : (ns.take k).length ≤ k := List.length_take_le _ _; omega)
      rw [if_pos hl]; rfl
    · intro s hs
      rcases List.mem_append.1 hs with g | g
      · exact (parts_some hp).1 s g
      · exact List.all_eq_true.1 ha s g
  · rw [if_neg ha]

set_option maxHeartbeats 2000000 in
theorem ref_join02 (p : ByteArray) (a : Option Addr) (c : Nat) (ns : List (List UInt8)) (w : World) (hr : RowAt w a (ns.map txt)) (hn : ns.length ≤ 140737488355328) :
    Calls Tryd.prog 23 #[.string p, .slice a ns.length c] w (RTextPost w (joinP (bl p) ns)) := by
  cases hp : parts (bl p) with
  | none =>
    have HJ : Hid (joinP (bl p) ns = none) := by show _ = _; unfold joinP; rw [hp]
    have HP := hid hp
    clear hp hr
    go_enter Tryd.func23, Tryd.ntmps23
    go_wp2_with fail
    refine (ref_parts p _).mono ?_
    rintro e w' ⟨v, rfl, hv, hb⟩
    have HB := hid hb
    rw [HP.out]
    clear hb hv
    go_wp2_with fail
    go_ret2
    exact ⟨by rw [HJ.out]; rfl, HB.out⟩
  | some ls =>
    have HJ : Hid (joinP (bl p) ns = if ns.all nameOk then (if (parts (makeS (ls ++ ns))).isSome then some (makeS (ls ++ ns)) else none) else none) := by show _ = _; unfold joinP; rw [hp]
    have HJL := hid (fun k h => join_long (ns := ns) hp k h)
    have hls := parts_some hp
    have h8 := hls.2.2.1
    have HN := hid hls.1
    have HP := hid hp
    have HRW := hid hr
    clear hp hls hr
    go_enter Tryd.func23, Tryd.ntmps23
    go_wp2_with fail
    refine (ref_parts p _).mono ?_
    rintro e w' ⟨v, rfl, hv, hb⟩
    have HB := hid hb
    rw [HP.out] at hv
    rw [HP.out, show (some ls).isSome = true from rfl]
    have HV := hid hv
    clear hb hv
    go_wp2_with fail
    go_loopw [6, 8] (fun v i wr => ∃ k : Nat, i = .int .i64 k ∧ k ≤ ns.length ∧ (ls ++ ns.take k).length ≤ 8 ∧ Hid (IsTexts wr v (ls ++ ns.take k)) ∧ Hid ((ns.take k).all nameOk = true) ∧ Hid (Below w.heap.size w wr)) (fun _ i _ => ns.length - (intOf i).toNat)
    case atStart => exact ⟨0, rfl, Nat.zero_le _, by rw [List.take_zero, List.append_nil]; exact h8, by rw [List.take_zero, List.append_nil]; exact HV, rfl, HB⟩
    case round =>
      clear HB HV
      obtain ⟨k, rfl, hk, hl8, HV, hall, HB⟩ := hrel
      obtain ⟨a1, c1, rfl, hr1, hc0, hcl, hcm⟩ := HV.out
      have HR1 := hid hr1
      have HC0 := hid hc0
      clear hr1 hc0
      unfold maxLen at hcm
      have HL := hid (fun h => HJL.out k h)
      have HLN : Hid (¬ k < ns.length → ls ++ ns.take k = ls ++ ns) := fun h => by rw [List.take_of_length_le (by omega)]
      generalize hLL : ls ++ ns.take k = L at *
      have HLL := hid hLL
      clear hLL HJL
      by_cases hlt : k < ns.length
      · obtain ⟨b, o, rfl, hcell⟩ := HRW.out.at k (by simpa using hlt)
        simp only [List.getElem_map] at hcell
        have hcw := (HB.out.cell (p := ⟨b, o + k, none⟩) (lt_of_cell hcell)).trans hcell
        have hts := hid (take_all ns k hlt)
        have htt := hid (List.take_succ_eq_append_getElem hlt)
        have hfl : Hid (nameOk ns[k] = false → ns.all nameOk = false) := fun h => by
          rw [List.all_eq_false]; exact ⟨ns[k], List.getElem_mem hlt, by simp [h]⟩
        have HL2 := hid (HL.out hlt)
        clear hcell HRW HL HLN
        generalize ns[k] = n at hcw hts hfl htt
        unfold txt at hcw
        have HC := hid (fun w => ref_name ⟨n.toArray⟩ w)
        rw [show bl ⟨n.toArray⟩ = n from rfl] at HC
        go_wp2_with fail
        refine (HC.out _).mono ?_
        rintro e w2 ⟨rfl, rfl⟩
        clear HC
        cases hn : nameOk n with
        | false =>
          have HF := hid (hfl.out hn)
          clear hn
          go_wp2_with fail
          go_ret2
          have e := HJ.out
          rw [HF.out, if_neg (by simp)] at e
          exact ⟨by rw [e]; rfl, HB.out⟩
        | true =>
          have HNM := hid hn
          clear hn
          by_cases hge : 8 ≤ L.length
          · have HF := hid (HL2.out hge)
            go_wp2_with fail
            go_ret2
            exact ⟨by rw [HF.out]; rfl, HB.out⟩
          · clear HL2
            go_wp2_with fail
            have hk1 : (0 : Int) ≤ (k : Int) := by omega
            have hk2 : (k : Int) < (ns.length : Int) := by omega
            have hlw : b < wr.heap.size := lt_of_cell hcw
            have hbw : Hid (Below wr.heap.size wr wr) := Below.refl _ _
            have hLm : (L.map txt).length = L.length := List.length_map _
            go_region_law (first
              | (refine step_app rfl (.tmp 34) (.tmp 35) 22 rfl wr.heap.size 9 Tryd.underlying22 infoS rfl (.slice (some ⟨_, 0, none⟩) 0 0) [] (L.map txt) a1 c1 rfl (owns_empty (by first | exact at_new _ _ | exact at_old _ _ _ | exact at_next _ _ _ | (simp; done)) (by first | (simp; done) | (simp; omega))) (by rw [List.length_map]; rfl) (HR1.out.below (by repeat (first | exact Below.refl _ _ | exact below_drewN' 1 | refine Below.alloc ?_ (by first | (simp; done) | (simp; omega)) _ | refine Below.drew ?_))) HC0.out (all_txt _) (by simp; unfold maxLen; omega) (by simp; omega) (by first | (simp; done) | (simp; omega)) ?_; intro v1 w1 ho1 hb1 hr1; have hsz1 : wr.heap.size + 1 ≤ w1.heap.size := (by have h := hb1.size; simp at h; omega); have HO1 := hid ho1; have HBA : Hid (Below wr.heap.size wr w1) := (Below.trans (by repeat (first | exact Below.refl _ _ | refine Below.alloc ?_ (by first | (simp; done) | (simp; omega)) _ | refine Below.drew ?_)) hb1); have HCR := hid hr1; have hcw1 := (hb1.cell (p := ⟨b, o + k, none⟩) hlw); clear ho1 hb1 hr1)
              | (refine step_app rfl (.tmp 36) (.tmp 41) 22 rfl wr.heap.size 9 Tryd.underlying22 infoS rfl v1 (L.map txt) [.string ⟨n.toArray⟩] (some ⟨_, 0, none⟩) 1 rfl (by first | exact HO1.out | exact HO1.out.alloc _ | exact HO1.out.drew | exact (HO1.out.alloc _).drew) rfl (by first | exact RowAt.new _ _ _ _ | exact HCR.out _ _ (by first | exact RowAt.new _ _ _ _ | exact row_next _ _ _ _ | exact (RowAt.new _ _ _ _).drew1 | exact (row_next _ _ _ _).drew1 | exact row_old _ _ _ _ | exact (row_old _ _ _ _).drew1) (by simp [Value.ownBlock])) (by simp) (by simp [Value.oneCell']) (by simp; unfold maxLen; omega) (by simp; omega) (by first | omega | (simp; omega)) ?_; intro v2 w2 ho2 hb2 hr2; have HO2 := hid ho2; have HBB : Hid (Below wr.heap.size wr w2) := (Below.trans (by repeat (first | exact HBA.out | refine Below.alloc ?_ (by first | omega | (simp; omega)) _ | refine Below.drew ?_)) hb2); clear ho2 hb2 hr2))
            all_goals
              have HT := hid (join_own' HO2.out)
              have HF := hid (below_step HB.out HB.out.size HBB.out)
              clear HO2 HBB HO1 HBA HCR hcw1
              go_wp2_with fail
              go_roundw
              case rel => exact ⟨k + 1, by go_num, by omega, by rw [htt.out, ← List.append_assoc, HLL.out, List.length_append]; simp; omega, by rw [htt.out, ← List.append_assoc, HLL.out]; exact HT.out, by rw [hts.out, hall.out, HNM.out]; rfl, HF⟩
              case measure => simp [intOf]; omega
      · have HE := hid (HLN.out hlt)
        obtain rfl : k = ns.length := by omega
        rw [List.take_length] at hall
        have e := HJ.out
        rw [hall.out, if_pos rfl, ← HE.out] at e
        have HJ2 := hid e
        have hmk := mk_len8 (ls := L) (by
          rw [HE.out]
          intro s hs
          rcases List.mem_append.1 hs with g | g
          · exact HN.out s g
          · exact List.all_eq_true.1 hall.out s g) hl8
        have HM := hid (fun w (h : RowAt w a1 (L.map txt)) => ref_make a1 c1 L w h (by omega) (by omega))
        clear e HJ HRW HL HLN hmk
        go_wp2_with fail
        refine (HM.out _ HR1.out).mono ?_
        rintro e w2 ⟨rfl, rfl⟩
        clear HM
        generalize makeS L = m at HJ2 ⊢
        unfold txt
        go_wp2_with fail
        refine (ref_parts ⟨m.toArray⟩ _).mono ?_
        rintro e w2 ⟨v2, rfl, hv, hb⟩
        rw [show bl ⟨m.toArray⟩ = m from rfl]
        have HB2 := hid (below_step HB.out HB.out.size hb)
        clear hb hv HB
        cases hm : parts m with
        | none =>
          rw [hm] at HJ2
          clear hm
          go_wp2_with fail
          go_ret2
          exact ⟨by rw [HJ2.out]; rfl, HB2.out⟩
        | some x =>
          rw [hm] at HJ2
          clear hm
          go_wp2_with fail
          go_ret2
          exact ⟨by rw [HJ2.out]; rfl, HB2.out⟩
end Go.Proofs.YtjbmphkoafkgfaaDoor
