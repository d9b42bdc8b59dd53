/-
  Package session: a table with any homes and sessions; find.
-/
import Derived.Test.YtdieomhddnhfoaaSessO
import Derived.Test.YtdieomhddnhfoaaMapD
import Derived.Test.YtdieomhddnhfoaaOwn
namespace Go.Proofs.Ytdieomhddnhfoaa
open Go.RowKit
set_option maxRecDepth 20000
set_option linter.unusedVariables false

/-- A session. -/
structure Sn where
  n : Int
  bs : Nat
  nonce : Int
  lease : Int
  beats : Int
  req : Int
  rv : Value
/-- The sessions of a home. -/
structure Hs where
  nm : List UInt8
  bh : Nat
  ml : Nat
  last : Int
  live : List Sn
def hEnt (h : Hs) : List UInt8 × Value := (h.nm, .pointer (some ⟨h.bh, 0, none⟩))
def sEnt (s : Sn) : Int × Value := (s.n, .pointer (some ⟨s.bs, 0, none⟩))
def sCells (nm : List UInt8) (s : Sn) : Array Value := #[tkey nm, .int .i64 s.n, .int .i64 s.nonce, .int .i64 s.lease, .int .i64 s.beats, .int .i64 s.req, s.rv]
structure HsAt (w : World) (h : Hs) : Prop where
  obj : ObjAt w h.bh 62 #[.int .i64 h.last, .map (some h.ml)]
  live : MapAt w h.ml ikey (h.live.map sEnt)
  kid : ∀ s ∈ h.live, ObjAt w s.bs 50 (sCells h.nm s)
  rng : ∀ s ∈ h.live, 1 ≤ s.n ∧ s.n ≤ h.last
  lst : 0 ≤ h.last ∧ h.last ≤ 4611686018427387903
  len : h.nm.length ≤ 32
structure TabT (w : World) (bt mh : Nat) (H : List Hs) : Prop where
  tab : ObjAt w bt 56 #[.map (some mh)]
  map : MapAt w mh tkey (H.map hEnt)
  hs : ∀ h ∈ H, HsAt w h
  db : (H.map Hs.bh).Nodup
  dl : (H.map Hs.ml).Nodup
  ne : ∀ h ∈ H, h.ml ≠ mh
/-- Which blocks a home has. -/
def HsHas (h : Hs) (k : Nat) : Prop := k = h.bh ∨ k = h.ml ∨ ∃ s ∈ h.live, k = s.bs
/-- Which blocks a table has. -/
def TabHas (bt mh : Nat) (H : List Hs) (k : Nat) : Prop := k = bt ∨ k = mh ∨ ∃ h ∈ H, HsHas h k
theorem HsAt.keptS {S : Nat → Prop} {w w' : World} {h : Hs} (a : HsAt w h) (hk : KeptS S w w') (hn : ∀ k, HsHas h k → ¬ S k) : HsAt w' h :=
  ⟨a.obj.keptS hk (hn _ (.inl rfl)), a.live.keptS hk (hn _ (.inr (.inl rfl))), fun s hs => (a.kid s hs).keptS hk (hn _ (.inr (.inr ⟨s, hs, rfl⟩))), a.rng, a.lst, a.len⟩
theorem TabT.keptS {S : Nat → Prop} {w w' : World} {bt mh : Nat} {H : List Hs} (h : TabT w bt mh H) (hk : KeptS S w w') (hn : ∀ k, TabHas bt mh H k → ¬ S k) : TabT w' bt mh H :=
  ⟨h.tab.keptS hk (hn _ (.inl rfl)), h.map.keptS hk (hn _ (.inr (.inl rfl))), fun x hx => (h.hs x hx).keptS hk (fun k e => hn k (.inr (.inr ⟨x, hx, e⟩))), h.db, h.dl, h.ne⟩
theorem TabT.below {w w' : World} {bt mh : Nat} {H : List Hs} (h : TabT w bt mh H) (hb : Below w.heap.size w w') : TabT w' bt mh H :=
  h.keptS (S := fun _ => False) (KeptS.of_below hb) (fun _ _ h => h)
theorem HsAt.lt {w : World} {h : Hs} (a : HsAt w h) : ∀ k, HsHas h k → k < w.heap.size := by
  rintro k (rfl | rfl | ⟨s, hs, rfl⟩)
  · exact a.obj.lt
  · exact a.live.lt
  · exact (a.kid s hs).lt
theorem TabT.lt {w : World} {bt mh : Nat} {H : List Hs} (h : TabT w bt mh H) : ∀ k, TabHas bt mh H k → k < w.heap.size := by
  rintro k (rfl | rfl | ⟨x, hx, hh⟩)
  · exact h.tab.lt
  · exact h.map.lt
  · exact (h.hs x hx).lt k hh
theorem TabT.names {w : World} {bt mh : Nat} {H : List Hs} (h : TabT w bt mh H) : (H.map Hs.nm).Nodup := by
  obtain ⟨_, _, _, _, _, _, hn⟩ := h.map
  rw [List.map_map] at hn; exact hn
theorem HsAt.nums {w : World} {h : Hs} (a : HsAt w h) : (h.live.map Sn.n).Nodup := by
  obtain ⟨_, _, _, _, _, _, hn⟩ := a.live
  rw [List.map_map] at hn; exact hn
theorem nodup_inj {α β : Type} {f : α → β} {l : List α} (h : (l.map f).Nodup) {x y : α} (hx : x ∈ l) (hy : y ∈ l) (e : f x = f y) : x = y := by
  induction l with
  | nil => simp at hx
  | cons z l ih =>
    simp only [List.map_cons, List.nodup_cons] at h
    rcases List.mem_cons.1 hx with rfl | hx' <;> rcases List.mem_cons.1 hy with rfl | hy'
    · rfl
    · exact absurd (List.mem_map.2 ⟨y, hy', e.symm⟩) h.1
    · exact absurd (List.mem_map.2 ⟨x, hx', e⟩) h.1
    · exact ih h.2 hx' hy'
/-- A home's sessions; a session. -/
def seekH (H : List Hs) (nm : List UInt8) : Option Hs := H.find? fun h => h.nm == nm
def seekS (l : List Sn) (n : Int) : Option Sn := l.find? fun s => s.n == n
theorem find_dec {α κ : Type} [i : BEq κ] [LawfulBEq κ] [j : DecidableEq κ] (f : α → κ) (k : κ) (l : List α) : l.find? (fun x => f x == k) = l.find? (fun x => @BEq.beq κ (@instBEqOfDecidableEq κ j) (f x) k) := by
  congr 1
  funext x
  rw [Bool.eq_iff_iff, beq_iff_eq]
  exact (decide_eq_true_iff (p := f x = k)).symm
theorem look_seekH (H : List Hs) (nm : List UInt8) : look (H.map hEnt) nm = (seekH H nm).map fun h => .pointer (some ⟨h.bh, 0, none⟩) := by
  unfold look seekH
  induction H with
  | nil => rfl
  | cons h H ih =>
    rw [List.map_cons, List.find?_cons, List.find?_cons]
    by_cases e : h.nm = nm
    · simp [e, hEnt]
    · have e1 : (h.nm == nm) = false := beq_eq_false_iff_ne.2 e
      have e2 : @BEq.beq _ instBEqOfDecidableEq (hEnt h).1 nm = false := decide_eq_false e
      rw [e1, e2]
      exact ih
theorem look_seekS (l : List Sn) (n : Int) : look (l.map sEnt) n = (seekS l n).map fun s => .pointer (some ⟨s.bs, 0, none⟩) := by
  unfold look seekS
  induction l with
  | nil => rfl
  | cons h H ih =>
    rw [List.map_cons, List.find?_cons, List.find?_cons]
    by_cases e : h.n = n
    · simp [e, sEnt]
    · have e1 : (h.n == n) = false := beq_eq_false_iff_ne.2 e
      have e2 : @BEq.beq _ instBEqOfDecidableEq (sEnt h).1 n = false := decide_eq_false e
      rw [e1, e2]
      exact ih
theorem seekH_some {H : List Hs} {nm : List UInt8} {h : Hs} (e : seekH H nm = some h) : h ∈ H ∧ h.nm = nm := by
  unfold seekH at e
  exact ⟨List.mem_of_find?_eq_some e, by simpa using List.find?_some e⟩
theorem seekH_none {H : List Hs} {nm : List UInt8} (e : seekH H nm = none) : ∀ h ∈ H, h.nm ≠ nm := fun h hh q => by
  unfold seekH at e
  simpa [q] using List.find?_eq_none.1 e h hh
theorem seekS_some {l : List Sn} {n : Int} {s : Sn} (e : seekS l n = some s) : s ∈ l ∧ s.n = n := by
  unfold seekS at e
  exact ⟨List.mem_of_find?_eq_some e, by simpa using List.find?_some e⟩
theorem seekS_none {l : List Sn} {n : Int} (e : seekS l n = none) : ∀ s ∈ l, s.n ≠ n := fun s hs q => by
  unfold seekS at e
  simpa [q] using List.find?_eq_none.1 e s hs

/-- What find tells. -/
def FindP (H : List Hs) (nm : List UInt8) (n : Int) (e : Ending) : Prop :=
  (∃ h s, seekH H nm = some h ∧ seekS h.live n = some s ∧ e = .returned (.tuple #[.pointer (some ⟨s.bs, 0, none⟩), .int .i64 0])) ∨
  ((∀ h ∈ H, h.nm = nm → ∀ s ∈ h.live, s.n ≠ n) ∧ (e = .returned (.tuple #[.pointer none, .int .i64 150]) ∨ e = .returned (.tuple #[.pointer none, .int .i64 151])))

set_option maxHeartbeats 2000000 in
theorem tab_find (bt mh : Nat) (H : List Hs) (nm : List UInt8) (n : Int) (w : World) (h : TabT w bt mh H) :
    Calls Try.prog 20 #[.pointer (some ⟨bt, 0, none⟩), .agg #[tkey nm, .int .i64 n]] w fun e w' => FindP H nm n e ∧ Below w.heap.size w w' := by
  have HH := hid h
  clear h
  go_enter Try.func20, Try.ntmps20
  go_wp2_with fail
  have HK := hid (ObjAt.new w 30 #[tkey nm, .int .i64 n])
  have HB := hid (below_new (w := w) (.cells #[tkey nm, .int .i64 n] 30))
  have HT := hid (HH.out.below HB.out)
  clear HH
  generalize w.alloc (.cells #[tkey nm, .int .i64 n] 30) = W at HK HB HT ⊢
  generalize w.heap.size = kb at HK
  have c0 := ObjAt.cell HT.out.tab 0 (.map (some mh)) rfl
  have k0 := ObjAt.cell HK.out 0 (tkey nm) rfl
  have k1 := ObjAt.cell HK.out 1 (.int .i64 n) rfl
  have l0 : ∀ n, (Instr.lookup 54 (.map (some mh)) (tkey nm) false).run Try.prog (W.drewN n) = .ok (((seekH H nm).map fun h => Value.pointer (some ⟨h.bh, 0, none⟩)).getD (.pointer none)) (W.drewN n) := fun n => by
    have h := run_look (w := W.drewN n) Try.underlying54 keyT HT.out.map nm (.pointer none) (by kernel_rfl) false
    rw [look_seekH] at h
    exact h
  cases hs : seekH H nm with
  | none =>
    have HF := hid (seekH_none hs)
    rw [hs] at l0
    have l1 : ∀ n, (Instr.lookup 54 (.map (some mh)) (tkey nm) false).run Try.prog (W.drewN n) = .ok (.pointer none) (W.drewN n) := l0
    clear l0 hs
    go_quiet (fail)
    go_wp2_with fail
    go_quiet (fail)
    go_wp2_with fail
    go_ret2
    exact ⟨.inr ⟨fun h hh e => absurd e (HF.out h hh), .inl rfl⟩, by simp only [World.drewN_drewN]; exact HB.out.trans (below_drewN' _)⟩
  | some x =>
    have HX := hid (seekH_some hs)
    rw [hs] at l0
    have l1 : ∀ n, (Instr.lookup 54 (.map (some mh)) (tkey nm) false).run Try.prog (W.drewN n) = .ok (.pointer (some ⟨x.bh, 0, none⟩)) (W.drewN n) := l0
    have HS := hid hs
    have HA := hid (HT.out.hs x HX.out.1)
    have HU : Hid (∀ h ∈ H, h.nm = nm → h = x) := fun h hh e => nodup_inj HT.out.names hh HX.out.1 (e.trans HX.out.2.symm)
    clear l0 hs
    have h0 := ObjAt.cell HA.out.obj 0 (.int .i64 x.last) rfl
    have h1 := ObjAt.cell HA.out.obj 1 (.map (some x.ml)) rfl
    by_cases hn1 : n < 1
    · have HF : Hid (∀ h ∈ H, h.nm = nm → ∀ s ∈ h.live, s.n ≠ n) := fun h hh e s hs q => by
        rw [HU.out h hh e] at hs
        have := HA.out.rng s hs; omega
      have d1 : decide (n < (1 : Int)) = true := decide_eq_true hn1
      clear hn1
      go_quiet (fail)
      go_wp2_with fail
      go_quiet (fail)
      go_wp2_with fail
      go_ret2
      exact ⟨.inr ⟨HF.out, .inl rfl⟩, by simp only [World.drewN_drewN]; exact HB.out.trans (below_drewN' _)⟩
    · have d1 : decide (n < (1 : Int)) = false := decide_eq_false hn1
      by_cases hn2 : x.last < n
      · have HF : Hid (∀ h ∈ H, h.nm = nm → ∀ s ∈ h.live, s.n ≠ n) := fun h hh e s hs q => by
          rw [HU.out h hh e] at hs
          have := HA.out.rng s hs; omega
        have d2 : decide (x.last < n) = true := decide_eq_true hn2
        clear hn1 hn2
        go_quiet (fail)
        go_wp2_with fail
        go_quiet (fail)
        go_wp2_with fail
        go_ret2
        exact ⟨.inr ⟨HF.out, .inl rfl⟩, by simp only [World.drewN_drewN]; exact HB.out.trans (below_drewN' _)⟩
      · have d2 : decide (x.last < n) = false := decide_eq_false hn2
        have l2 : ∀ m, (Instr.lookup 60 (.map (some x.ml)) (.int .i64 n) false).run Try.prog (W.drewN m) = .ok (((seekS x.live n).map fun s => Value.pointer (some ⟨s.bs, 0, none⟩)).getD (.pointer none)) (W.drewN m) := fun m => by
          have h := run_look (w := W.drewN m) Try.underlying60 keyI HA.out.live n (.pointer none) (by kernel_rfl) false
          rw [look_seekS] at h
          exact h
        clear hn1 hn2
        cases hs : seekS x.live n with
        | none =>
          rw [hs] at l2
          have l3 : ∀ m, (Instr.lookup 60 (.map (some x.ml)) (.int .i64 n) false).run Try.prog (W.drewN m) = .ok (.pointer none) (W.drewN m) := l2
          have HF : Hid (∀ h ∈ H, h.nm = nm → ∀ s ∈ h.live, s.n ≠ n) := fun h hh e s hs' q => by
            rw [HU.out h hh e] at hs'
            exact seekS_none hs s hs' q
          clear l2 hs
          go_quiet (fail)
          go_wp2_with fail
          go_quiet (fail)
          go_wp2_with fail
          go_quiet (fail)
          go_wp2_with fail
          go_ret2
          exact ⟨.inr ⟨HF.out, .inr rfl⟩, by simp only [World.drewN_drewN]; exact HB.out.trans (below_drewN' _)⟩
        | some s =>
          rw [hs] at l2
          have l3 : ∀ m, (Instr.lookup 60 (.map (some x.ml)) (.int .i64 n) false).run Try.prog (W.drewN m) = .ok (.pointer (some ⟨s.bs, 0, none⟩)) (W.drewN m) := l2
          have HF := hid hs
          clear l2 hs
          go_quiet (fail)
          go_wp2_with fail
          go_quiet (fail)
          go_wp2_with fail
          go_quiet (fail)
          go_wp2_with fail
          go_quiet (fail)
          go_wp2_with fail
          go_ret2
          exact ⟨.inl ⟨x, s, HS.out, HF.out, rfl⟩, by simp only [World.drewN_drewN]; exact HB.out.trans (below_drewN' _)⟩
end Go.Proofs.Ytdieomhddnhfoaa
