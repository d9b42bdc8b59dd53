/-
  Package session: a table with one home: New, find, Begin, End.
-/
import Derived.Test.YtdieomhddnhfoaaRows
import Derived.Test.YtdieomhddnhfoaaMap
import Derived.Test.YtdieomhddnhfoaaClone
import Derived.Deep.QuietTactic
import Derived.BigQuiet
import Derived.RegionTactic
import Derived.Outline
namespace Go.Proofs.Ytdieomhddnhfoaa
open Go.RowKit
set_option maxRecDepth 20000
set_option linter.unusedVariables false

abbrev ikey (n : Int) : Value := .int .i64 n
/-- A new table. -/
def NewT (w : World) (bt mh : Nat) : Prop := ObjAt w bt 56 #[.map (some mh)] ∧ MapAt w mh tkey [] ∧ bt ≠ mh

theorem sess_new (w : World) : Calls Try.prog 6 #[] w fun e w' => ∃ bt mh, e = .returned (.pointer (some ⟨bt, 0, none⟩)) ∧ NewT w' bt mh ∧ w.heap.size ≤ bt ∧ w.heap.size ≤ mh ∧ Below w.heap.size w w' := by
  have hmm := @run_makeMap Try.prog
  go_enter Try.func6, Try.ntmps6
  go_wp2
  go_ret
  refine ⟨w.heap.size + 1, w.heap.size, rfl, ⟨?_, ?_, by omega⟩, by omega, by omega, ?_⟩
  · have h := ObjAt.new (w.alloc (.map #[] 0)) 56 #[.map (some w.heap.size)]
    rw [show (w.alloc (.map #[] 0)).heap.size = w.heap.size + 1 from by simp] at h
    exact h
  · exact (MapAt.new w tkey).below (below_new _)
  · exact ((Below.refl _ _).alloc (Nat.le_refl _) _).alloc (by simp) _

/-- A table with the one session {"a", 1}: where its parts lie. -/
structure Parts1 where
  bt : Nat
  mh : Nat
  bh : Nat
  ml : Nat
  bs : Nat
structure TAt (w : World) (x : Parts1) (nonce lease beats req : Int) (rv : Value) (reply : List UInt8) : Prop where
  tab : ObjAt w x.bt 56 #[.map (some x.mh)]
  houses : MapAt w x.mh tkey [([97], .pointer (some ⟨x.bh, 0, none⟩))]
  house : ObjAt w x.bh 62 #[.int .i64 1, .map (some x.ml)]
  live : MapAt w x.ml ikey [(1, .pointer (some ⟨x.bs, 0, none⟩))]
  sess : ObjAt w x.bs 50 #[tkey [97], .int .i64 1, .int .i64 nonce, .int .i64 lease, .int .i64 beats, .int .i64 req, rv]
  rep : IsBytes w rv reply
  ne : x.bt ≠ x.bs ∧ x.mh ≠ x.bs ∧ x.bh ≠ x.bs ∧ x.ml ≠ x.bs
theorem TAt.below {w w' : World} {x : Parts1} {a b c d : Int} {rv : Value} {l : List UInt8} (h : TAt w x a b c d rv l) (hb : Below w.heap.size w w') : TAt w' x a b c d rv l :=
  ⟨h.tab.below hb, h.houses.below hb, h.house.below hb, h.live.below hb, h.sess.below hb, h.rep.below hb, h.ne⟩

theorem TAt.drew1 {w : World} {x : Parts1} {a b c d : Int} {rv : Value} {l : List UInt8} (h : TAt w x a b c d rv l) : TAt w.drew x a b c d rv l :=
  ⟨h.tab, h.houses, h.house, h.live, h.sess, h.rep, h.ne⟩

theorem keyT : KeyOk Try.prog 9 tkey := KeyOk.text Try.underlying9
theorem keyI : KeyOk Try.prog 3 ikey := KeyOk.int Try.underlying3

set_option maxHeartbeats 1000000 in
theorem sess_find (x : Parts1) (a b c d : Int) (rv : Value) (l : List UInt8) (w : World) (h : TAt w x a b c d rv l) :
    Calls Try.prog 20 #[.pointer (some ⟨x.bt, 0, none⟩), .agg #[tkey [97], .int .i64 1]] w fun e w' => e = .returned (.tuple #[.pointer (some ⟨x.bs, 0, none⟩), .int .i64 0]) ∧ Below w.heap.size w w' := by
  have HH := hid h
  clear h
  go_enter Try.func20, Try.ntmps20
  go_wp2_with fail
  have HK := hid (ObjAt.new w 30 #[tkey [97], .int .i64 1])
  have HB := hid (below_new (w := w) (.cells #[tkey [97], .int .i64 1] 30))
  have HT := hid (HH.out.below HB.out)
  clear HH
  generalize w.alloc (.cells #[tkey [97], .int .i64 1] 30) = W at HK HB HT ⊢
  generalize w.heap.size = kb at HK
  have c0 := ObjAt.cell HT.out.tab 0 (.map (some x.mh)) rfl
  have k0 := ObjAt.cell HK.out 0 (tkey [97]) rfl
  have k1 := ObjAt.cell HK.out 1 (.int .i64 1) rfl
  have h0 := ObjAt.cell HT.out.house 0 (.int .i64 1) rfl
  have h1 := ObjAt.cell HT.out.house 1 (.map (some x.ml)) rfl
  have l1 : ∀ n, (Instr.lookup 54 (.map (some x.mh)) (tkey [97]) false).run Try.prog (W.drewN n) = .ok (.pointer (some ⟨x.bh, 0, none⟩)) (W.drewN n) := fun n =>
    run_look (w := W.drewN n) Try.underlying54 keyT HT.out.houses [97] (.pointer none) (by kernel_rfl) false
  have l2 : ∀ n, (Instr.lookup 60 (.map (some x.ml)) (.int .i64 1) false).run Try.prog (W.drewN n) = .ok (.pointer (some ⟨x.bs, 0, none⟩)) (W.drewN n) := fun n =>
    run_look (w := W.drewN n) Try.underlying60 keyI HT.out.live 1 (.pointer none) (by kernel_rfl) false
  have d1 : decide ((1 : Int) < 1) = false := by decide
  go_quiet (fail)
  go_wp2_with fail
  go_quiet (fail)
  go_wp2_with fail
  go_quiet (fail)
  go_wp2_with fail
  go_quiet (fail)
  go_wp2_with fail
  go_ret2
  exact ⟨rfl, by simp only [World.drewN_drewN]; exact HB.out.trans (below_drewN' _)⟩

def numOk (n : Int) : Bool := decide (1 ≤ n ∧ n ≤ 4611686018427387903)
theorem sess_number (n : Int) (w : World) : Calls Try.prog 19 #[.int .i64 n] w fun e w' => e = .returned (.bool (numOk n)) ∧ w = w' := by
  unfold numOk
  by_cases h : 1 ≤ n
  · go_enter Try.func19, Try.ntmps19
    go_wp2
    go_ret
    exact ⟨ret_v (by simp [h]), rfl⟩
  · go_enter Try.func19, Try.ntmps19
    go_wp2
    go_ret
    exact ⟨ret_v (by simp; omega), rfl⟩

/-- What Begin tells: the error's number, whether it was seen. -/
def beginE (req q : Int) : Int := if numOk q then if q = req then 0 else if q < req then 152 else 0 else 10
def beginS (req q : Int) : Bool := numOk q && decide (q = req)
def BeginPost (w : World) (req q : Int) (reply : List UInt8) (e : Ending) (w' : World) : Prop := ∃ v, e = .returned (.tuple #[v, .bool (beginS req q), .int .i64 (beginE req q)]) ∧ Below w.heap.size w w' ∧ (beginS req q = true → IsBytes w' v reply)
theorem begin_ret {v : Value} {a b : Bool} {m n : Int} (hab : a = b) (hmn : m = n) : Ending.returned (.tuple #[v, .bool a, .int .i64 m]) = .returned (.tuple #[v, .bool b, .int .i64 n]) := by
  subst hab; subst hmn; rfl

set_option maxHeartbeats 1000000 in
theorem sess_begin (x : Parts1) (a b c d : Int) (rv : Value) (l : List UInt8) (q : Int) (w : World) (h : TAt w x a b c d rv l) (hm : l.length ≤ 140737488355328) :
    Calls Try.prog 8 #[.pointer (some ⟨x.bt, 0, none⟩), .agg #[tkey [97], .int .i64 1], .int .i64 q] w (BeginPost w d q l) := by
  have HH := hid h
  clear h
  go_enter Try.func8, Try.ntmps8
  go_wp2_with fail
  have HB := hid (below_new (w := w) (.cells #[tkey [97], .int .i64 1] 30))
  have HT := hid (HH.out.below HB.out)
  clear HH
  refine (sess_find x a b c d rv l _ HT.out).mono ?_
  rintro e w1 ⟨rfl, hb⟩
  have HB1 := hid (below_step HB.out HB.out.size hb)
  have HT1 := hid (HT.out.below hb)
  clear hb HT HB
  go_wp2_with fail
  refine (sess_number q _).mono ?_
  rintro e w2 ⟨rfl, rfl⟩
  have s5 := ObjAt.cell HT1.out.sess 5 (.int .i64 d) rfl
  have s6 := ObjAt.cell HT1.out.sess 6 rv rfl
  cases hn : numOk q with
  | false =>
    have HE : Hid (beginE d q = 10 ∧ beginS d q = false) := by unfold beginE beginS; rw [hn]; exact ⟨rfl, rfl⟩
    clear hn
    go_wp2_with fail
    go_ret3
    exact ⟨_, begin_ret HE.out.2.symm HE.out.1.symm, HB1.out, fun h => by rw [HE.out.2] at h; cases h⟩
  | true =>
  by_cases hq : q = d
  · have HE : Hid (beginE d q = 0 ∧ beginS d q = true) := by unfold beginE beginS; rw [hn, if_pos rfl, if_pos hq, decide_eq_true hq]; exact ⟨rfl, rfl⟩
    have e1 : (q == d) = true := beq_iff_eq.2 hq
    have HR := hid HT1.out.rep
    clear hn hq
    go_wp2_with fail
    refine (bytes_clone rv l _ HR.out hm).mono ?_
    rintro e w3 ⟨v, rfl, ho, hb⟩
    have HB3 := hid (below_step HB1.out HB1.out.size hb)
    have HO := hid (owns_bytes ho)
    clear hb ho HB1 HR
    go_wp2_with fail
    go_ret3
    exact ⟨v, begin_ret HE.out.2.symm HE.out.1.symm, HB3.out, fun _ => HO.out⟩
  · have e1 : (q == d) = false := beq_eq_false_iff_ne.2 hq
    by_cases hl : q < d
    · have HE : Hid (beginE d q = 152 ∧ beginS d q = false) := by unfold beginE beginS; rw [hn, if_pos rfl, if_neg hq, if_pos hl, decide_eq_false hq]; exact ⟨rfl, rfl⟩
      clear hn hq
      go_wp2_with fail
      go_ret3
      exact ⟨_, begin_ret HE.out.2.symm HE.out.1.symm, HB1.out, fun h => by rw [HE.out.2] at h; cases h⟩
    · have HE : Hid (beginE d q = 0 ∧ beginS d q = false) := by unfold beginE beginS; rw [hn, if_pos rfl, if_neg hq, if_neg hl, decide_eq_false hq]; exact ⟨rfl, rfl⟩
      clear hn hq
      go_wp2_with fail
      go_ret3
      exact ⟨_, begin_ret HE.out.2.symm HE.out.1.symm, HB1.out, fun h => by rw [HE.out.2] at h; cases h⟩

/-- What End tells. -/
def endE (req q : Int) : Int := if numOk q then if q ≤ req then 152 else 0 else 10
def EndPost (w : World) (x : Parts1) (a b c d : Int) (rv : Value) (l : List UInt8) (q : Int) (nl : List UInt8) (e : Ending) (w' : World) : Prop :=
  e = .returned (.int .i64 (endE d q)) ∧ Kept w.heap.size x.bs w w' ∧ (endE d q = 0 → ∃ v, TAt w' x a b c q v nl ∧ ∀ ad n k, v = .slice (some ad) n k → w.heap.size ≤ ad.block) ∧ (endE d q ≠ 0 → Below w.heap.size w w')

theorem TAt.kept_set {w w' : World} {x : Parts1} {a b c d q : Int} {rv v : Value} {l nl : List UInt8} (h : TAt w x a b c d rv l) (hk : Kept w.heap.size x.bs w w')
    (hs : ObjAt w' x.bs 50 #[tkey [97], .int .i64 1, .int .i64 a, .int .i64 b, .int .i64 c, .int .i64 q, v]) (hr : IsBytes w' v nl) : TAt w' x a b c q v nl :=
  ⟨h.tab.kept hk h.ne.1, h.houses.kept hk h.ne.2.1, h.house.kept hk h.ne.2.2.1, h.live.kept hk h.ne.2.2.2, hs, hr, h.ne⟩

theorem owns_kept {w w' : World} {base b' : Nat} {e : TypeId} {size : Nat} {v : Value} {n : Nat} {xs : List Value} (h : w.ownsRow base e size v n xs) (hk : Kept w.heap.size b' w w') (hb : b' < base) : w'.ownsRow base e size v n xs := by
  obtain ⟨h1, h2⟩ := h
  refine ⟨h1, ?_⟩
  rcases h2 with hn | ⟨g, cap, cur, rfl, hbb, hg, r⟩
  · exact .inl hn
  · exact .inr ⟨g, cap, cur, rfl, hbb, by rw [hk.block g (Array.getElem?_eq_some_iff.1 hg).1 (by omega)]; exact hg, r⟩

theorem own_ge {w : World} {base : Nat} {e : TypeId} {size n m k : Nat} {v : Value} {ad : Addr} {xs : List Value} (h : w.ownsRow base e size v n xs) (hv : v = .slice (some ad) m k) : base ≤ ad.block := by
  rcases h.2 with ⟨e, _⟩ | ⟨g, cap, cur, e, hb, _⟩
  · rw [hv] at e; simp at e
  · rw [hv] at e
    simp only [Value.slice.injEq, Option.some.injEq] at e
    rw [e.1]; exact hb
theorem ObjAt.grown {w w' : World} {b : Nat} {t : TypeId} {cs : Array Value} {row : Option Nat} (h : ObjAt w b t cs) (hg : w.grownBy w' row) (hn : some b ≠ row) : ObjAt w' b t cs := by
  have hl := h.lt
  unfold ObjAt at *
  rw [hg.block b hl hn]; exact h
theorem MapAt.grown {w w' : World} {m : Nat} {κ : Type} {enc : κ → Value} {l : List (κ × Value)} {row : Option Nat} (h : MapAt w m enc l) (hg : w.grownBy w' row) (hn : some m ≠ row) : MapAt w' m enc l := by
  have hl := h.lt
  obtain ⟨arr, clock, h1, h2⟩ := h
  exact ⟨arr, clock, by rw [hg.block m hl hn]; exact h1, h2⟩
theorem IsBytes.grown {w w' : World} {v : Value} {l : List UInt8} {row : Option Nat} (h : IsBytes w v l) (hg : w.grownBy w' row) (hn : ∀ ad n k, v = .slice (some ad) n k → some ad.block ≠ row) : IsBytes w' v l := by
  obtain ⟨a, c, rfl, hr, h0, h1, h2⟩ := h
  exact ⟨a, c, rfl, hr.grown hg (fun ad e => hn ad _ _ (by rw [e])), h0, h1, h2⟩
theorem TAt.grown {w w' : World} {x : Parts1} {a b c d : Int} {rv : Value} {l : List UInt8} {row : Option Nat} {B : Nat} (h : TAt w x a b c d rv l) (hg : w.grownBy w' row) (hB : ∀ g, row = some g → B ≤ g)
    (hx : x.bt < B ∧ x.mh < B ∧ x.bh < B ∧ x.ml < B ∧ x.bs < B) (hn : ∀ ad n k, rv = .slice (some ad) n k → some ad.block ≠ row) : TAt w' x a b c d rv l := by
  have ne : ∀ k, k < B → some k ≠ row := fun k hk e => by have := hB k e.symm; omega
  exact ⟨h.tab.grown hg (ne _ hx.1), h.houses.grown hg (ne _ hx.2.1), h.house.grown hg (ne _ hx.2.2.1), h.live.grown hg (ne _ hx.2.2.2.1), h.sess.grown hg (ne _ hx.2.2.2.2), h.rep.grown hg hn, h.ne⟩

set_option maxHeartbeats 1000000 in
theorem sess_end (x : Parts1) (a b c d : Int) (rv : Value) (l : List UInt8) (q : Int) (nv : Value) (nl : List UInt8) (w : World) (h : TAt w x a b c d rv l) (hv : IsBytes w nv nl) (hm : nl.length ≤ 140737488355328) :
    Calls Try.prog 9 #[.pointer (some ⟨x.bt, 0, none⟩), .agg #[tkey [97], .int .i64 1], .int .i64 q, nv] w (EndPost w x a b c d rv l q nl) := by
  have HH := hid h
  have HN := hid hv
  clear h hv
  go_enter Try.func9, Try.ntmps9
  go_wp2_with fail
  have HB := hid (below_new (w := w) (.cells #[tkey [97], .int .i64 1] 30))
  have HT := hid (HH.out.below HB.out)
  have HN1 := hid (HN.out.below HB.out)
  clear HN
  refine (sess_find x a b c d rv l _ HT.out).mono ?_
  rintro e w1 ⟨rfl, hb⟩
  have HB1 := hid (below_step HB.out HB.out.size hb)
  have HT1 := hid (HT.out.below hb)
  have HN := hid (HN1.out.below hb)
  clear hb HT HB HN1
  go_wp2_with fail
  refine (sess_number q _).mono ?_
  rintro e w2 ⟨rfl, rfl⟩
  have s5 := ObjAt.cell HT1.out.sess 5 (.int .i64 d) rfl
  cases hn : numOk q with
  | false =>
    have HE : Hid (endE d q = 10) := by show _ = _; unfold endE; rw [hn]; rfl
    clear hn
    go_wp2_with fail
    go_ret
    exact ⟨by rw [HE.out]; rfl, Kept.of_below HB1.out, fun h => by rw [HE.out] at h; omega, fun _ => HB1.out⟩
  | true =>
  by_cases hq : q ≤ d
  · have HE : Hid (endE d q = 152) := by show _ = _; unfold endE; rw [hn, if_pos rfl, if_pos hq]
    clear hn
    go_wp2_with fail
    go_ret
    exact ⟨by rw [HE.out]; rfl, Kept.of_below HB1.out, fun h => by rw [HE.out] at h; omega, fun _ => HB1.out⟩
  · have HE : Hid (endE d q = 0) := by show _ = _; unfold endE; rw [hn, if_pos rfl, if_neg hq]
    clear hn
    go_wp2_with fail
    refine (bytes_clone nv nl _ HN.out hm).mono ?_
    rintro e w3 ⟨v, rfl, ho, hb⟩
    have HB3 := hid (below_step HB1.out HB1.out.size hb)
    have HT3 := hid (HT1.out.below hb)
    have HO := hid (owns_bytes ho)
    have hlt := HT1.out.sess.lt
    have HW := hid ho
    clear hb ho HN HT1 s5
    have f5 := ObjAt.frozen HT3.out.sess 5
    have f6 := ObjAt.frozen HT3.out.sess 6
    have s5 := ObjAt.cell HT3.out.sess 5 (.int .i64 d) rfl
    have s6 := ObjAt.cell HT3.out.sess 6 rv rfl
    obtain ⟨va, vc, rfl, -⟩ := HO.out
    have HK := hid ((Kept.set w3 ⟨x.bs, 5, none⟩ (.int .i64 q)).trans (Kept.set (w3.setCell ⟨x.bs, 5, none⟩ (.int .i64 q)) ⟨x.bs, 6, none⟩ (.slice va nl.length vc)) (B := w3.heap.size))
    have HS := hid (ObjAt.set (ObjAt.set HT3.out.sess 5 (.int .i64 q)) 6 (.slice va nl.length vc))
    have HR := hid (owns_bytes (owns_kept HW.out HK.out hlt))
    go_wp2_with fail
    go_ret
    exact ⟨by rw [HE.out]; rfl, (Kept.of_below HB3.out).trans (HK.out.mono HB3.out.size), fun _ => ⟨_, HT3.out.kept_set HK.out HS.out HR.out, fun ad n k e => Nat.le_trans HB1.out.size (own_ge HW.out e)⟩, fun h => absurd HE.out h⟩
end Go.Proofs.Ytdieomhddnhfoaa
