/-
  The document's disk: what lies in memory; Used, Find, all, Read.
-/
import Derived.Test.YtibhkkfbhbnmeaaDskG
import Derived.Test.YtibhkkfbhbnmeaaDskX
import Derived.Laws.OwnMore
import Derived.Deep.CutBlock
namespace Go.Proofs.Ytibhkkfbhbnmeaa
open Go.RowKit
set_option maxRecDepth 20000
set_option linter.unusedVariables false

theorem flat_cell {α : Type} (f : α → List Value) (c : Nat) (hc : ∀ x, (f x).length = c) : ∀ (L : List α) (j i : Nat) (hj : j < L.length), i < c → (L.flatMap f)[j * c + i]? = (f L[j])[i]? := by
  intro L
  induction L with
  | nil => intro j i hj; simp at hj
  | cons x L ih =>
    intro j i hj hi
    rw [List.flatMap_cons]
    cases j with
    | zero => rw [List.getElem?_append_left (by rw [hc]; omega)]; simp
    | succ j =>
      rw [List.getElem?_append_right (by rw [hc, Nat.add_mul]; omega), hc, show (j + 1) * c + i - c = j * c + i by rw [Nat.add_mul]; omega, ih j i (by simpa using hj) hi]
      rfl

structure Fr where
  nm : List UInt8
  v : Value
  b : List UInt8
  safe : Nat
def frC (x : Fr) : List Value := [.string ⟨x.nm.toArray⟩, x.v, .int .i64 (x.safe : Nat)]
theorem frC_len (x : Fr) : (frC x).length = 3 := rfl
def absR (L : List Fr) : List Ab := L.map fun x => (x.nm, x.b, x.safe)
theorem row_fr {w : World} {a : Option Addr} {L : List Fr} (h : RowAt w a (L.flatMap frC)) {j : Nat} (hj : j < L.length) : ∃ b o, a = some ⟨b, o, none⟩ ∧
    w.cell? ⟨b, o + j * 3, none⟩ = some (.string ⟨L[j].nm.toArray⟩) ∧ w.cell? ⟨b, o + j * 3 + 1, none⟩ = some L[j].v ∧ w.cell? ⟨b, o + j * 3 + 2, none⟩ = some (.int .i64 (L[j].safe : Nat)) := by
  have key : ∀ i v, (frC L[j])[i]? = some v → i < 3 → ∃ b o, a = some ⟨b, o, none⟩ ∧ w.cell? ⟨b, o + (j * 3 + i), none⟩ = some v := fun i v hv hi => h (j * 3 + i) v (by rw [flat_cell frC 3 frC_len L j i hj hi]; exact hv)
  obtain ⟨b, o, rfl, h0⟩ := key 0 _ rfl (by decide)
  have k2 : ∀ i v, (frC L[j])[i]? = some v → i < 3 → w.cell? ⟨b, o + (j * 3 + i), none⟩ = some v := fun i v hv hi => by
    obtain ⟨b', o', e, h1⟩ := key i v hv hi
    simp only [Option.some.injEq, Addr.mk.injEq, and_true] at e
    obtain ⟨rfl, rfl⟩ := e
    exact h1
  exact ⟨b, o, rfl, h0, by have := k2 1 _ rfl (by decide); rw [← Nat.add_assoc] at this; exact this, by have := k2 2 _ rfl (by decide); rw [← Nat.add_assoc] at this; exact this⟩

structure RfD (w : World) (xd : Nat) (cap : Int) (B : Nat) (lv : Value) (L : List Fr) : Prop where
  obj : ObjAt w xd 30 #[.int .i64 cap, lv]
  row : w.ownsRow B 43 3 lv L.length (L.flatMap frC)
  bs : ∀ x ∈ L, w.ownsRow B 5 1 x.v x.b.length (x.b.map byt)
  bx : B ≤ xd
/-- Which blocks it has. -/
def RHas (xd : Nat) (lv : Value) (L : List Fr) (k : Nat) : Prop := k = xd ∨ lv.ownBlock = some k ∨ ∃ x ∈ L, x.v.ownBlock = some k
theorem RfD.below {w w' : World} {xd B : Nat} {cap : Int} {lv : Value} {L : List Fr} (h : RfD w xd cap B lv L) (hb : Below w.heap.size w w') : RfD w' xd cap B lv L :=
  ⟨h.obj.below hb, owns_below h.row hb, fun x hx => owns_below (h.bs x hx) hb, h.bx⟩
theorem RfD.keptS {S : Nat → Prop} {w w' : World} {xd B : Nat} {cap : Int} {lv : Value} {L : List Fr} (h : RfD w xd cap B lv L) (hk : KeptS S w w') (hn : ∀ k, RHas xd lv L k → ¬ S k) : RfD w' xd cap B lv L :=
  ⟨h.obj.keptS hk (hn _ (.inl rfl)), own_keptS h.row hk (fun g e => hn _ (.inr (.inl e))), fun x hx => own_keptS (h.bs x hx) hk (fun k e => hn _ (.inr (.inr ⟨x, hx, e⟩))), h.bx⟩
theorem RfD.lt {w : World} {xd B : Nat} {cap : Int} {lv : Value} {L : List Fr} (h : RfD w xd cap B lv L) : ∀ k, RHas xd lv L k → B ≤ k ∧ k < w.heap.size := fun k hk => by
  rcases hk with rfl | e | ⟨x, hx, e⟩
  · exact ⟨h.bx, h.obj.lt⟩
  · exact own_lt h.row k e
  · exact own_lt (h.bs x hx) k e
theorem own_typed {w : World} {base : Nat} {e : TypeId} {size n : Nat} {v : Value} {xs : List Value} (h : w.ownsRow base e size v n xs) {g : Nat} (hg : v.ownBlock = some g) : ∃ cur, ObjAt w g e cur := by
  rcases h.2 with ⟨rfl, -⟩ | ⟨g', cap, cur, rfl, -, hc, -⟩
  · cases hg
  · cases hg; exact ⟨cur, hc⟩
theorem RfD.len {w : World} {xd B : Nat} {cap : Int} {lv : Value} {L : List Fr} (h : RfD w xd cap B lv L) : ∃ a c, lv = .slice a L.length c ∧ RowAt w a (L.flatMap frC) := by
  obtain ⟨a, c, e, hr, -⟩ := owns_row h.row
  exact ⟨a, c, e, hr⟩

def sumR (L : List Fr) : Nat := (L.map fun x => x.b.length).sum
theorem sumR_abs (L : List Fr) : sumR L = sumA (absR L) := by unfold sumR sumA absR; rw [List.map_map]; rfl
theorem sumR_take_succ (L : List Fr) (i : Nat) (h : i < L.length) : sumR (L.take (i + 1)) = sumR (L.take i) + L[i].b.length := by
  unfold sumR
  rw [List.take_succ_eq_append_getElem h, List.map_append, List.sum_append]; simp
theorem sumR_take_le (L : List Fr) (i : Nat) : sumR (L.take i) ≤ sumR L := by
  unfold sumR
  rw [List.map_take]; exact take_sum_le _ _

theorem refd_used (xd B : Nat) (cap : Int) (lv : Value) (L : List Fr) (w : World) (h : RfD w xd cap B lv L) (hs : sumR L ≤ 4611686018427387904) (hl : L.length ≤ 4611686018427387904) :
    Calls Try.prog 30 #[.pointer (some ⟨xd, 0, none⟩)] w fun e w' => e = .returned (.int .i64 (sumR L : Nat)) ∧ w = w' := by
  obtain ⟨a, c, rfl, hrow⟩ := h.len
  have c1 := h.obj.cell 1 (.slice a L.length c) rfl
  have HR := hid hrow
  have HB := hid h.bs
  clear h hrow
  go_enter Try.func30, Try.ntmps30
  go_wp2_with fail
  go_loop [3, 4] (fun s t => ∃ i : Nat, i ≤ L.length ∧ t = .int .i64 i ∧ s = .int .i64 (sumR (L.take i) : Nat)) (fun _ t => L.length - (intOf t).toNat)
  case atStart => exact ⟨0, Nat.zero_le _, rfl, rfl⟩
  case round =>
    obtain ⟨i, hi, rfl, rfl⟩ := hrel
    by_cases hlt : i < L.length
    · obtain ⟨b, o, rfl, -, r1, -⟩ := row_fr HR.out hlt
      obtain ⟨va, vc, hve, -, -, -, -⟩ := owns_bytes (HB.out L[i] (List.getElem_mem hlt))
      have HSU := hid (sumR_take_succ L i hlt)
      have HLE := sumR_take_le L (i + 1)
      rw [HSU.out] at HLE
      rw [hve] at r1
      clear hve
      generalize L[i] = x at *
      go_wp2_with fail
      go_round
      case rel => exact ⟨i + 1, by omega, by go_num, int_v (by rw [HSU.out]; omega)⟩
      case measure => simp [intOf]; omega
    · have hie : i = L.length := by omega
      have HF : Hid (sumR (L.take i) = sumR L) := by show _ = _; rw [hie, List.take_length]
      clear hie
      go_wp2_with fail
      go_ret
      exact ⟨by rw [← HF.out]; rfl, rfl⟩
def findR (L : List Fr) (nm : List UInt8) : Int := match L.findIdx? (fun x => x.nm == nm) with | some i => i | none => -1
theorem refd_find (xd B : Nat) (cap : Int) (lv : Value) (L : List Fr) (nm : List UInt8) (w : World) (h : RfD w xd cap B lv L) (hl : L.length ≤ 4611686018427387904) :
    Calls Try.prog 31 #[.pointer (some ⟨xd, 0, none⟩), .string ⟨nm.toArray⟩] w fun e w' => e = .returned (.int .i64 (findR L nm)) ∧ w = w' := by
  obtain ⟨a, c, rfl, hrow⟩ := h.len
  have c1 := h.obj.cell 1 (.slice a L.length c) rfl
  have HR := hid hrow
  obtain ⟨k, hk⟩ : ∃ k, k = findR L nm := ⟨_, rfl⟩
  rw [← hk]
  have HK := hid hk
  clear h hrow hk
  go_enter Try.func31, Try.ntmps31
  go_wp2_with fail
  go_loop [5] (fun t => ∃ i : Nat, i ≤ L.length ∧ t = .int .i64 i ∧ Hid (∀ x ∈ L.take i, (x.nm == nm) = false)) (fun t => L.length - (intOf t).toNat)
  case atStart => exact ⟨0, Nat.zero_le _, rfl, fun x hx => by simp at hx⟩
  case round =>
    obtain ⟨i, hi, rfl, HN⟩ := hrel
    by_cases hlt : i < L.length
    · obtain ⟨b, o, rfl, r0, -, -⟩ := row_fr HR.out hlt
      by_cases he : (L[i].nm == nm) = true
      · have HF : Hid (findR L nm = i) := by
          show findR L nm = i
          unfold findR
          have : L.findIdx? (fun x => x.nm == nm) = some i := by
            rw [List.findIdx?_eq_some_iff_getElem]
            refine ⟨hlt, he, fun j hj => ?_⟩
            have := HN.out (L[j]'(by omega)) (List.mem_take_iff_getElem.2 ⟨j, by omega, rfl⟩)
            simp [this]
          rw [this]
        generalize L[i].nm = y at *
        go_wp2_with fail
        go_ret
        exact ⟨by rw [HK.out, HF.out]; rfl, rfl⟩
      · have he2 : (L[i].nm == nm) = false := by simpa using he
        have HN2 : Hid (∀ x ∈ L.take (i + 1), (x.nm == nm) = false) := fun x hx => by
          rw [List.take_succ_eq_append_getElem hlt] at hx
          rcases List.mem_append.1 hx with h | h
          · exact HN.out x h
          · rw [List.mem_singleton.1 h]; exact he2
        clear he
        generalize L[i].nm = y at *
        go_wp2_with fail
        go_round
        case rel => exact ⟨i + 1, by omega, by go_num, HN2⟩
        case measure => simp [intOf]; omega
    · have hie : i = L.length := by omega
      have HF : Hid (findR L nm = -1) := by
        show findR L nm = -1
        unfold findR
        have : L.findIdx? (fun x => x.nm == nm) = none := by
          rw [List.findIdx?_eq_none_iff]
          intro x hx
          exact HN.out x (by rw [hie, List.take_length]; exact hx)
        rw [this]
      clear hie
      go_wp2_with fail
      go_ret
      exact ⟨by rw [HK.out, HF.out]; rfl, rfl⟩
theorem findR_some {L : List Fr} {nm : List UInt8} {i : Nat} (h : L.findIdx? (fun x => x.nm == nm) = some i) : findR L nm = i := by unfold findR; rw [h]
theorem findR_none {L : List Fr} {nm : List UInt8} (h : L.findIdx? (fun x => x.nm == nm) = none) : findR L nm = -1 := by unfold findR; rw [h]
def allR (L : List Fr) (ns : List (List UInt8)) : Int := if ns.all fname then (if ns.all (fun s => decide (0 ≤ findR L s)) then 0 else 31) else 30
theorem name_row {w : World} {a : Option Addr} {ns : List (List UInt8)} (h : RowAt w a (ns.map fun s => Value.string ⟨s.toArray⟩)) {k : Nat} (hk : k < ns.length) : ∃ b o, a = some ⟨b, o, none⟩ ∧ w.cell? ⟨b, o + k, none⟩ = some (.string ⟨ns[k].toArray⟩) := by
  obtain ⟨b, o, rfl, hc⟩ := h.at k (by rw [List.length_map]; exact hk)
  rw [List.getElem_map] at hc
  exact ⟨b, o, rfl, hc⟩
theorem refd_all (xd B : Nat) (cap : Int) (lv : Value) (L : List Fr) (a : Option Addr) (ns : List (List UInt8)) (c : Nat) (w : World) (h : RfD w xd cap B lv L) (hl : L.length ≤ 4611686018427387904) (hr : RowAt w a (ns.map fun s => Value.string ⟨s.toArray⟩)) (hn : ns.length ≤ 4611686018427387904) (hs : ∀ s ∈ ns, s.length ≤ 1048576) :
    Calls Try.prog 36 #[.pointer (some ⟨xd, 0, none⟩), .slice a ns.length c] w fun e w' => e = .returned (.int .i64 (allR L ns)) ∧ w = w' := by
  have HH := hid h
  have HR := hid hr
  have HS := hid hs
  obtain ⟨k, hk⟩ : ∃ k, k = allR L ns := ⟨_, rfl⟩
  rw [← hk]
  have HK := hid hk
  clear h hr hs hk
  go_enter Try.func36, Try.ntmps36
  go_wp2_with fail
  go_loop [5] (fun t => ∃ i : Nat, i ≤ ns.length ∧ t = .int .i64 i ∧ Hid (∀ s ∈ ns.take i, fname s = true)) (fun t => ns.length - (intOf t).toNat)
  case atStart => exact ⟨0, Nat.zero_le _, rfl, fun x hx => by simp at hx⟩
  case round =>
    obtain ⟨i, hi, rfl, HN⟩ := hrel
    by_cases hlt : i < ns.length
    · obtain ⟨b, o, rfl, r0⟩ := name_row HR.out hlt
      have hmem := List.getElem_mem hlt
      have hsz := HS.out ns[i] hmem
      have HN2 : fname ns[i] = true → Hid (∀ s ∈ ns.take (i + 1), fname s = true) := fun hf s hs => by
        rw [List.take_succ_eq_append_getElem hlt] at hs
        rcases List.mem_append.1 hs with h | h
        · exact HN.out s h
        · rw [List.mem_singleton.1 h]; exact hf
      have HBAD : fname ns[i] = false → Hid (allR L ns = 30) := fun hf => by
        show allR L ns = 30
        unfold allR
        rw [if_neg]
        intro h
        have := List.all_eq_true.1 h _ hmem
        rw [hf] at this; cases this
      have HN2' := hid HN2
      have HBAD' := hid HBAD
      clear HN2 HBAD hmem
      generalize ns[i] = nm at *
      go_wp2_with fail
      refine (ref_name ⟨nm.toArray⟩ w hsz).mono ?_
      rintro e w1 ⟨rfl, rfl⟩
      have ebl : (ByteArray.mk nm.toArray).data.toList = nm := rfl
      rw [ebl]
      clear ebl
      cases hf : fname nm with
      | false =>
        have HF := HBAD'.out hf
        clear hf HBAD' HN2'
        go_wp2_with fail
        go_ret
        exact ⟨by rw [HK.out, HF.out]; rfl, rfl⟩
      | true =>
        have HF := HN2'.out hf
        clear hf HBAD' HN2'
        go_wp2_with fail
        go_round
        case rel => exact ⟨i + 1, by omega, by go_num, HF⟩
        case measure => simp [intOf]; omega
    · have hie : i = ns.length := by omega
      have HALL : Hid (ns.all fname = true) := by
        show ns.all fname = true
        rw [List.all_eq_true]
        intro s hs
        exact HN.out s (by rw [hie, List.take_length]; exact hs)
      clear hie HN
      go_wp2_with fail
      go_loop [6] (fun t => ∃ i : Nat, i ≤ ns.length ∧ t = .int .i64 i ∧ Hid (∀ s ∈ ns.take i, 0 ≤ findR L s)) (fun t => ns.length - (intOf t).toNat)
      case atStart => exact ⟨0, Nat.zero_le _, rfl, fun x hx => by simp at hx⟩
      case round =>
        obtain ⟨j, hj, rfl, HN⟩ := hrel
        by_cases hlt2 : j < ns.length
        · obtain ⟨b, o, rfl, r0⟩ := name_row HR.out hlt2
          have hmem := List.getElem_mem hlt2
          have HN2 : 0 ≤ findR L ns[j] → Hid (∀ s ∈ ns.take (j + 1), 0 ≤ findR L s) := fun hf s hs => by
            rw [List.take_succ_eq_append_getElem hlt2] at hs
            rcases List.mem_append.1 hs with h | h
            · exact HN.out s h
            · rw [List.mem_singleton.1 h]; exact hf
          have HBAD : findR L ns[j] < 0 → Hid (allR L ns = 31) := fun hf => by
            show allR L ns = 31
            unfold allR
            rw [if_pos HALL.out, if_neg]
            intro h
            have := List.all_eq_true.1 h _ hmem
            simp only [decide_eq_true_eq] at this
            omega
          have HN2' := hid HN2
          have HBAD' := hid HBAD
          clear HN2 HBAD hmem
          generalize ns[j] = nm at *
          go_wp2_with fail
          refine (refd_find xd B cap lv L nm w HH.out hl).mono ?_
          rintro e w1 ⟨rfl, rfl⟩
          by_cases hf : findR L nm < 0
          · have HF := HBAD'.out hf
            clear HBAD' HN2'
            go_wp2_with fail
            go_ret
            exact ⟨by rw [HK.out, HF.out]; rfl, rfl⟩
          · have HF := HN2'.out (by omega)
            clear HBAD' HN2'
            go_wp2_with fail
            go_round
            case rel => exact ⟨j + 1, by omega, by go_num, HF⟩
            case measure => simp [intOf]; omega
        · have hje : j = ns.length := by omega
          have HF : Hid (allR L ns = 0) := by
            show allR L ns = 0
            unfold allR
            rw [if_pos HALL.out, if_pos]
            rw [List.all_eq_true]
            intro s hs
            have := HN.out s (by rw [hje, List.take_length]; exact hs)
            simpa using this
          clear hje
          go_wp2_with fail
          go_ret
          exact ⟨by rw [HK.out, HF.out]; rfl, rfl⟩
theorem refd_read (xd B : Nat) (cap : Int) (lv : Value) (L : List Fr) (nm : List UInt8) (w : World) (h : RfD w xd cap B lv L) (hl : L.length ≤ 4611686018427387904) (hs : nm.length ≤ 1048576) :
    Calls Try.prog 11 #[.pointer (some ⟨xd, 0, none⟩), .string ⟨nm.toArray⟩] w fun e w' => e = .returned (.tuple #[.int .i64 (if allR L [nm] = 0 then findR L nm else 0), .int .i64 (allR L [nm])]) ∧ Below w.heap.size w w' := by
  have HB := hid (below_new (w := w) (.cells #[.string ⟨nm.toArray⟩] 9))
  have HR := hid (RowAt.new w #[.string ⟨nm.toArray⟩] 9 (0, 0))
  have HH := hid (h.below HB.out)
  obtain ⟨k, hk⟩ : ∃ k, k = allR L [nm] := ⟨_, rfl⟩
  obtain ⟨r, hr⟩ : ∃ r, r = if k = 0 then findR L nm else 0 := ⟨_, rfl⟩
  rw [← hk, ← hr]
  have HK := hid hk
  have HRR := hid hr
  clear h hk hr
  go_enter Try.func11, Try.ntmps11
  go_wp2_with fail
  refine (refd_all xd B cap lv L _ [nm] 1 _ HH.out hl HR.out (by simp) (by simpa using hs)).mono ?_
  rintro e w1 ⟨rfl, rfl⟩
  rw [← HK.out]
  by_cases hz : k = 0
  · have HF : Hid (r = findR L nm) := by show r = _; rw [HRR.out, if_pos hz]
    subst hz
    go_wp2_with fail
    refine (refd_find xd B cap lv L nm _ HH.out hl).mono ?_
    rintro e w1 ⟨rfl, rfl⟩
    rw [← HF.out]
    go_wp2_with fail
    go_ret2
    exact ⟨rfl, HB.out⟩
  · have HF : Hid (r = 0) := by show r = _; rw [HRR.out, if_neg hz]
    have hz2 : (k != 0) = true := by simpa using hz
    have hz3 : (k == 0) = false := by simpa using hz
    clear hz
    go_wp2_with fail
    go_ret2
    exact ⟨by rw [HF.out]; rfl, HB.out⟩
end Go.Proofs.Ytibhkkfbhbnmeaa
