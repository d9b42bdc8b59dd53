/-
  LeaseSafe: what lies in memory.
-/
import Derived.Test.YtebmhjphnlgojaaLk2
import Derived.Test.YtebmhjphnlgojaaAwake18
namespace Go.Proofs.Ytebmhjphnlgojaa
open Go.RowKit
set_option maxRecDepth 20000
set_option linter.unusedVariables false

theorem wpList_app_oneG {P : Program} {w0 : World} {ops : Array Oper} {rest : List Oper} {o : Oper} {a : Act} {Q : Exit → Act → World → Prop} (hgd : o.guard = Option.none) (s x : Operand) (t : TypeId)
    (ho : o.op = .call { callee := .builtin .append, args := #[s, x], argTypes := #[t, t] })
    (base : Nat) (e : TypeId) {z : Value} {bytes : Nat} (ht : P.underlying t = some (.slice e)) (hinfo : (P.info? e).map (fun i => (i.zero, i.size, i.bytes)) = some (some z, 1, bytes)) (hzs : z.cells.size = 1)
    (v : Value) (xs : List Value) (u : Value) (hs : a.eval s = v) (hown : w0.ownsRow base e 1 v xs.length xs)
    (hx : a.eval x = .slice (some ⟨w0.heap.size, 0, Option.none⟩) 1 1) (hu : u.oneCell' = true) (hlen : (xs.length + 1) * bytes ≤ 140737488355328) (h63 : xs.length + 1 ≤ maxLen) (hbase : base ≤ w0.heap.size)
    (h : ∀ v' w1, w1.ownsRow base e 1 v' (xs ++ [u]).length (xs ++ [u]) → KeptS (fun k => v.ownBlock = some k) w0 w1 → wpList P ops Q rest (a.put o.dst v') w1) :
    wpList P ops Q (o :: rest) a (w0.alloc (.cells #[u] e)) := by
  refine wpList_app hgd s x t ho base e ht hinfo hzs (by omega) v xs.length xs hs (hown.alloc _) _ 1 1 [u] hx rfl (RowAt.new _ _ _ _) (by simp [hu]) h63 hlen (by simp; omega) (by simp) ?_
  intro v' w1 ho1 hg _
  refine h v' w1 ?_ ((KeptS.of_below (below_new (w := w0) (.cells #[u] e))).next (KeptS.grown hg))
  rw [List.length_append]; exact ho1
theorem own_typed {w : World} {base : Nat} {e : TypeId} {size n : Nat} {v : Value} {xs : List Value} (h : w.ownsRow base e size v n xs) {g : Nat} (hg : v.ownBlock = some g) : ∃ cur, ObjAt w g e cur := by
  rcases h.2 with ⟨rfl, -⟩ | ⟨g', cap, cur, rfl, -, hc, -⟩
  · cases hg
  · cases hg; exact ⟨cur, hc⟩

structure LM (B : Nat) (w wx : World) (dd hb kb ga sb bs : Nat) (p q n U now B0 S0 Bc : Int) (vs : Value) (sl ar_ : List Int) : Prop where
  bel : Below B w wx
  dr : ObjAt wx dd 23 #[.int .i64 p, .int .i64 q]
  ho : HAt wx hb p q U
  ke : ∃ g c, ObjAt wx kb 77 #[.int .i64 now, .slice (some ⟨g, 0, none⟩) 1 c] ∧ wx.ownsRow B 79 8 (.slice (some ⟨g, 0, none⟩) 1 c) 1 (kArr n B0 S0).toList
  ar : ∃ cu, ObjAt wx ga 3 cu ∧ Cells cu ar_
  se : ObjAt wx sb 51 (sArr n Bc (.slice none 0 0))
  row : wx.ownsRow bs 3 1 vs sl.length (sl.map (Value.int .i64))
  gs : ga < bs
  b1 : B ≤ hb
  b2 : B ≤ kb
  b3 : B ≤ ga
  b4 : B ≤ sb
  b5 : B ≤ bs
  sz : B ≤ wx.heap.size
section
variable {B : Nat} {w wx wy : World} {dd hb kb ga sb bs : Nat} {p q n U now B0 S0 Bc : Int} {vs : Value} {sl ar_ : List Int}
theorem LM.size (h : LM B w wx dd hb kb ga sb bs p q n U now B0 S0 Bc vs sl ar_) : B ≤ wx.heap.size := h.sz
theorem LM.below (h : LM B w wx dd hb kb ga sb bs p q n U now B0 S0 Bc vs sl ar_) (hb' : Below wx.heap.size wx wy) : LM B w wy dd hb kb ga sb bs p q n U now B0 S0 Bc vs sl ar_ := by
  obtain ⟨g, c, k1, k2⟩ := h.ke
  obtain ⟨cu, a1, a2⟩ := h.ar
  exact ⟨h.bel.trans (hb'.mono h.size), h.dr.below hb', ObjAt.below h.ho hb', ⟨g, c, k1.below hb', owns_below k2 hb'⟩, ⟨cu, a1.below hb', a2⟩, h.se.below hb', owns_below h.row hb', h.gs, h.b1, h.b2, h.b3, h.b4, h.b5, Nat.le_trans h.sz hb'.size⟩
theorem LM.renew {U' : Int} (h : LM B w wx dd hb kb ga sb bs p q n U now B0 S0 Bc vs sl ar_) (ho : HAt wy hb p q U') (hk : Kept wx.heap.size hb wx wy) : LM B w wy dd hb kb ga sb bs p q n U' now B0 S0 Bc vs sl ar_ := by
  obtain ⟨g, c, k1, k2⟩ := h.ke
  obtain ⟨cu, a1, a2⟩ := h.ar
  have hh : ObjAt wx hb 74 _ := h.ho
  have ks := KeptS.of_kept (S := fun k => k = hb) hk rfl
  refine ⟨h.bel.trans ((hk.mono h.size).below h.b1), h.dr.kept hk (h.dr.ne_obj hh (by decide)), ho, ⟨g, c, k1.kept hk (k1.ne_obj hh (by decide)), own_keptS k2 ks (fun g' e => ?_)⟩, ⟨cu, a1.kept hk (a1.ne_obj hh (by decide)), a2⟩, h.se.kept hk (h.se.ne_obj hh (by decide)), own_keptS h.row ks (fun g' e => ?_), h.gs, h.b1, h.b2, h.b3, h.b4, h.b5, Nat.le_trans h.sz ks.size⟩
  · obtain ⟨cur, hc⟩ := own_typed k2 e
    exact hc.ne_obj hh (by decide)
  · obtain ⟨cur, hc⟩ := own_typed h.row e
    exact hc.ne_obj hh (by decide)
theorem LM.note {e : Ending} {t s' b' : Int} (h : LM B w wx dd hb kb ga sb bs p q n U now B0 S0 Bc vs sl ar_) (hp : NotePost wx kb n b' s' t e wy) : LM B w wy dd hb kb ga sb bs p q n U t b' s' Bc vs sl ar_ := by
  obtain ⟨-, g, c, k1, k2, hk⟩ := hp
  obtain ⟨g0, c0, q1, q2⟩ := h.ke
  obtain ⟨cu, a1, a2⟩ := h.ar
  have ks := KeptS.of_kept (S := fun k => k = kb) hk rfl
  refine ⟨h.bel.trans ((hk.mono h.size).below h.b2), h.dr.kept hk (h.dr.ne_obj q1 (by decide)), ObjAt.kept h.ho hk (ObjAt.ne_obj h.ho q1 (by decide)), ⟨g, c, k1, owns_base k2 h.size⟩, ⟨cu, a1.kept hk (a1.ne_obj q1 (by decide)), a2⟩, h.se.kept hk (h.se.ne_obj q1 (by decide)), own_keptS h.row ks (fun g' e => ?_), h.gs, h.b1, h.b2, h.b3, h.b4, h.b5, Nat.le_trans h.sz ks.size⟩
  obtain ⟨cur, hc⟩ := own_typed h.row e
  exact hc.ne_obj q1 (by decide)
theorem LM.arr (h : LM B w wx dd hb kb ga sb bs p q n U now B0 S0 Bc vs sl ar_) (j : Nat) (v : Int) : LM B w (wx.setCell ⟨ga, j, none⟩ (.int .i64 v)) dd hb kb ga sb bs p q n U now B0 S0 Bc vs sl (ar_.set j v) := by
  obtain ⟨g, c, k1, k2⟩ := h.ke
  obtain ⟨cu, a1, a2⟩ := h.ar
  have hk : Kept wx.heap.size ga wx (wx.setCell ⟨ga, j, none⟩ (.int .i64 v)) := Kept.set wx ⟨ga, j, none⟩ (.int .i64 v)
  have ks := KeptS.of_kept (S := fun k => k = ga) hk rfl
  refine ⟨h.bel.trans ((hk.mono h.size).below h.b3), h.dr.kept hk (h.dr.ne_obj a1 (by decide)), ObjAt.kept h.ho hk (ObjAt.ne_obj h.ho a1 (by decide)), ⟨g, c, k1.kept hk (k1.ne_obj a1 (by decide)), own_keptS k2 ks (fun g' e => ?_)⟩, ⟨_, a1.set j (.int .i64 v), a2.set j v⟩, h.se.kept hk (h.se.ne_obj a1 (by decide)), own_keptS h.row ks (fun g' e => ?_), h.gs, h.b1, h.b2, h.b3, h.b4, h.b5, Nat.le_trans h.sz ks.size⟩
  · obtain ⟨cur, hc⟩ := own_typed k2 e
    exact hc.ne_obj a1 (by decide)
  · have h1 := (own_lt h.row g' e).1
    have h2 := h.gs
    omega
theorem LM.beat (h : LM B w wx dd hb kb ga sb bs p q n U now B0 S0 Bc vs sl ar_) (v : Int) : LM B w (wx.setCell ⟨sb, 4, none⟩ (.int .i64 v)) dd hb kb ga sb bs p q n U now B0 S0 v vs sl ar_ := by
  obtain ⟨g, c, k1, k2⟩ := h.ke
  obtain ⟨cu, a1, a2⟩ := h.ar
  have hk : Kept wx.heap.size sb wx (wx.setCell ⟨sb, 4, none⟩ (.int .i64 v)) := Kept.set wx ⟨sb, 4, none⟩ (.int .i64 v)
  have ks := KeptS.of_kept (S := fun k => k = sb) hk rfl
  have hs : ObjAt (wx.setCell ⟨sb, 4, none⟩ (.int .i64 v)) sb 51 (sArr n v (.slice none 0 0)) := h.se.set 4 (.int .i64 v)
  refine ⟨h.bel.trans ((hk.mono h.size).below h.b4), h.dr.kept hk (h.dr.ne_obj h.se (by decide)), ObjAt.kept h.ho hk (ObjAt.ne_obj h.ho h.se (by decide)), ⟨g, c, k1.kept hk (k1.ne_obj h.se (by decide)), own_keptS k2 ks (fun g' e => ?_)⟩, ⟨cu, a1.kept hk (a1.ne_obj h.se (by decide)), a2⟩, hs, own_keptS h.row ks (fun g' e => ?_), h.gs, h.b1, h.b2, h.b3, h.b4, h.b5, Nat.le_trans h.sz ks.size⟩
  · obtain ⟨cur, hc⟩ := own_typed k2 e
    exact hc.ne_obj h.se (by decide)
  · obtain ⟨cur, hc⟩ := own_typed h.row e
    exact hc.ne_obj h.se (by decide)
theorem LM.sent {vs' : Value} {sl' : List Int} (h : LM B w wx dd hb kb ga sb bs p q n U now B0 S0 Bc vs sl ar_) (ho : wy.ownsRow bs 3 1 vs' sl'.length (sl'.map (Value.int .i64))) (ks : KeptS (fun k => vs.ownBlock = some k) wx wy) : LM B w wy dd hb kb ga sb bs p q n U now B0 S0 Bc vs' sl' ar_ := by
  obtain ⟨g, c, k1, k2⟩ := h.ke
  obtain ⟨cu, a1, a2⟩ := h.ar
  have off : ∀ {b : Nat} {t : TypeId} {cs : Array Value}, ObjAt wx b t cs → t ≠ 3 → ¬ vs.ownBlock = some b := fun ho hne e => by
    obtain ⟨cur, hc⟩ := own_typed h.row e
    exact absurd rfl (ho.ne_obj hc hne)
  refine ⟨h.bel.trans (ks.below (fun k e => Nat.le_trans h.b5 (own_lt h.row k e).1) h.size), h.dr.keptS ks (off h.dr (by decide)), ObjAt.keptS h.ho ks (off h.ho (by decide)), ⟨g, c, k1.keptS ks (off k1 (by decide)), own_keptS k2 ks (fun g' e => ?_)⟩, ⟨cu, a1.keptS ks (fun e => ?_), a2⟩, h.se.keptS ks (off h.se (by decide)), ho, h.gs, h.b1, h.b2, h.b3, h.b4, h.b5, Nat.le_trans h.sz ks.size⟩
  · obtain ⟨cur, hc⟩ := own_typed k2 e
    exact off hc (by decide)
  · have h1 := (own_lt h.row ga e).1
    have h2 := h.gs
    omega
end
end Go.Proofs.Ytebmhjphnlgojaa
