/-
  Arguments that are plain data (numbers, bools, texts, slices and structs of these), read out of memory by one theorem for all of them.
-/
import Derived.Test.YteiifligdfnifaaDoorRows
import Derived.Test.YteiifligdfnifaaDoorBase
import Derived.ProofKit
import Derived.OpenShut
import Derived.ShutString
import Derived.ChangeOld
import Derived.ChangeArms
import Derived.Below
import Derived.SizedLaws
import Derived.JoinedCond
import Derived.Deep.CondSized
import Derived.Carry
namespace Go.Proofs.YteiifligdfnifaaDoor
open Go.ChangeShapes Go.WideShapes Go.ChangeAt Go.RowKit

/-- The kinds of plain data. A struct is its fields one behind the other: 'pair first rest', 'unit'. -/
inductive Ty where
  | int (k : IntKind)
  | bool
  | str
  | slice (e : Ty)
  | unit
  | pair (a b : Ty)

abbrev Ty.El : Ty → Type
  | .int _ => Int
  | .bool => Bool
  | .str => List UInt8
  | .slice e => List e.El
  | .unit => Unit
  | .pair a b => a.El × b.El

/-- How many cells. -/
def Ty.cells : Ty → Nat
  | .unit => 0
  | .pair a b => a.cells + b.cells
  | _ => 1

/-- A lower bound for how many bytes. -/
def Ty.bytes : Ty → Nat
  | .int .u8 => 1
  | .int _ => 8
  | .bool => 1
  | .str => 16
  | .slice _ => 24
  | .unit => 0
  | .pair a b => a.bytes + b.bytes

/-- The cells cs hold x. -/
def Rd (w : World) : (t : Ty) → List Value → t.El → Prop
  | .int k, cs, n => cs = [.int k n] ∧ (Lit.int k n).wf = true
  | .bool, cs, b => cs = [.bool b]
  | .str, cs, s => cs = [.string ⟨s.toArray⟩] ∧ s.length ≤ maxLen
  | .slice e, cs, l => ∃ a cap vss, cs = [.slice a l.length cap] ∧ (a = none → cap = 0) ∧ l.length ≤ cap ∧ cap ≤ maxLen ∧ List.length vss = l.length ∧ RowAt w a vss.flatten ∧
      ∀ (j : Nat) v x, vss[j]? = some v → l[j]? = some x → v.length = e.cells ∧ Rd w e v x
  | .unit, cs, _ => cs = []
  | .pair a b, cs, x => ∃ c d, cs = c ++ d ∧ c.length = a.cells ∧ Rd w a c x.1 ∧ Rd w b d x.2

/-- Each string and slice is within the form's own reach. -/
def Fit : (t : Ty) → t.El → Prop
  | .int _, _ => True
  | .bool, _ => True
  | .str, s => s.length ≤ reachBytes
  | .slice e, l => l.length * e.bytes ≤ reachBytes ∧ ∀ x ∈ l, Fit e x
  | .unit, _ => True
  | .pair a b, x => Fit a x.1 ∧ Fit b x.2

/-- How many values and letters. -/
def Blk : (t : Ty) → t.El → Nat
  | .int _, _ => 1
  | .bool, _ => 1
  | .str, s => s.length + 1
  | .slice e, l => (l.map (Blk e)).sum + 1
  | .unit, _ => 0
  | .pair a b, x => Blk a x.1 + Blk b x.2

mutual
/-- The type t of the program is of this kind. -/
def okTy (P : Program) : Ty → TypeId → Bool
  | .int k, t => match P.underlying t with
    | some (.int k') => k' == k
    | _ => false
  | .bool, t => match P.underlying t with
    | some .bool => true
    | _ => false
  | .str, t => match P.underlying t with
    | some .string => true
    | _ => false
  | .slice e, t => match P.underlying t with
    | some (.slice te) => okTy P e te && (P.cellsOf te == e.cells) && decide (0 < e.cells) && decide (e.bytes ≤ P.bytesOf te)
    | _ => false
  | .unit, _ => false
  | .pair a b, t => match P.underlying t with
    | some (.struct fs) => (P.cellsOf t == a.cells + b.cells) && (match fs.toList with
      | f :: r => okTy P a f.type && (f.offset == 0) && (P.cellsOf f.type == a.cells) && okFs P b r a.cells
      | [] => false)
    | _ => false
/-- The fields fs, from the cell off on, are of this kind. -/
def okFs (P : Program) : Ty → List Field → Nat → Bool
  | .pair a b, f :: r, off => okTy P a f.type && (f.offset == off) && (P.cellsOf f.type == a.cells) && okFs P b r (off + a.cells)
  | .unit, [], _ => true
  | _, _, _ => false
end

theorem bulk_one_le {H : Type} (d : DataW H) : 1 ≤ Rows.uptoBulk d := by
  cases d with
  | lit l => cases l <;> simp [Rows.uptoBulk]
  | nil => simp [Rows.uptoBulk]
  | ptr d => simp [Rows.uptoBulk]
  | slice elems spare => simp [Rows.uptoBulk]
  | agg parts => simp [Rows.uptoBulk]
  | iface t d => simp [Rows.uptoBulk]
  | map entries => simp [Rows.uptoBulk]
  | held h => simp [Rows.uptoBulk]

section
variable {H : Type} {enc : TypeId × Value → H} {P : Program} {w : World} {base : Nat} {spare : Nat → Bool} {held : Bool}

def Q1 (enc : TypeId × Value → H) (P : Program) (w : World) (base : Nat) (spare : Nat → Bool) (held : Bool) (T : Ty) : Prop :=
  ∀ (t : TypeId) (fuel : Nat) (cs : List Value) (x : DataW H × List MemPlace), okTy P T t = true → DataW.trod enc P w base spare held fuel t cs = some x →
    cs.length = T.cells ∧ ∃ el : T.El, Rd w T cs el ∧ ((∀ m ∈ x.1.weights P t, m ≤ reachBytes) → Fit T el) ∧ Blk T el ≤ Rows.uptoBulk x.1

def Q2 (enc : TypeId × Value → H) (P : Program) (w : World) (base : Nat) (spare : Nat → Bool) (held : Bool) (T : Ty) : Prop :=
  ∀ (fs : List Field) (off n : Nat) (cs : List Value) (xs : List (DataW H × List MemPlace)), okFs P T fs off = true → cs.length = off + T.cells → xs.length = fs.length →
    (∀ (i : Nat) (f : Field), fs[i]? = some f → DataW.trod enc P w base spare held n f.type ((cs.drop f.offset).take (P.cellsOf f.type)) = xs[i]?) →
    ∃ el : T.El, Rd w T (cs.drop off) el ∧ ((∀ m ∈ DataW.weightsEach P (fs.map (·.type)) (xs.map (·.1)), m ≤ reachBytes) → Fit T el) ∧ Blk T el ≤ Rows.uptoBulkAll (xs.map (·.1))

theorem q2_pair {a b : Ty} (ha : Q1 enc P w base spare held a) (hb : Q2 enc P w base spare held b) : Q2 enc P w base spare held (.pair a b) := by
  intro fs off n cs xs hok hl hx htr
  cases fs with
  | nil => simp [okFs] at hok
  | cons f r =>
    simp only [okFs, Bool.and_eq_true, beq_iff_eq] at hok
    obtain ⟨⟨⟨h1, h2⟩, h3⟩, h4⟩ := hok
    cases xs with
    | nil => simp at hx
    | cons x xs =>
      have hf := htr 0 f rfl
      simp only [List.getElem?_cons_zero] at hf
      rw [h2, h3] at hf
      obtain ⟨hl1, e1, r1, f1, b1⟩ := ha _ _ _ _ h1 hf
      simp only [Ty.cells] at hl
      obtain ⟨e2, r2, f2, b2⟩ := hb r (off + a.cells) n cs xs h4 (by omega) (by simpa using hx) (fun i g hg => htr (i + 1) g hg)
      refine ⟨(e1, e2), ⟨(cs.drop off).take a.cells, cs.drop (off + a.cells), ?_, hl1, r1, r2⟩, ?_, ?_⟩
      · rw [← List.drop_drop, List.take_append_drop]
      · intro hm
        simp only [List.map_cons, DataW.weightsEach, List.mem_append] at hm
        exact ⟨f1 fun m h => hm m (.inl h), f2 fun m h => hm m (.inr h)⟩
      · simp only [Blk, List.map_cons, Rows.uptoBulkAll]; omega

theorem q2_unit : Q2 enc P w base spare held .unit := by
  intro fs off n cs xs hok hl hx htr
  cases fs with
  | nil =>
    refine ⟨(), ?_, fun _ => trivial, Nat.zero_le _⟩
    show cs.drop off = []
    simp only [Ty.cells] at hl
    exact List.drop_of_length_le (by omega)
  | cons f r => simp [okFs] at hok

theorem mapM_len {α β : Type} {f : α → Option β} {l : List α} {r : List β} (h : l.mapM f = some r) : r.length = l.length := mapM_some_length h

theorem sum_le_bulk {e : Ty} : ∀ (l : List e.El) (ds : List (DataW H)), l.length = ds.length → (∀ (j : Nat) (x : e.El) (d : DataW H), l[j]? = some x → ds[j]? = some d → Blk e x ≤ Rows.uptoBulk d) → (l.map (Blk e)).sum ≤ Rows.uptoBulkAll ds
  | [], [], _, _ => Nat.zero_le _
  | [], _ :: _, h, _ => by simp at h
  | _ :: _, [], h, _ => by simp at h
  | x :: l, d :: ds, h, hall => by
    have h1 := sum_le_bulk l ds (by simpa using h) (fun j y z hy hz => hall (j + 1) y z hy hz)
    have h2 := hall 0 x d rfl rfl
    simp only [List.map_cons, List.sum_cons, Rows.uptoBulkAll]; omega

theorem mem_weightsAll {e : TypeId} {ds : List (DataW H)} {d : DataW H} (h : d ∈ ds) : ∀ m ∈ d.weights P e, m ∈ DataW.weightsAll P e ds := by
  induction ds with
  | nil => cases h
  | cons x r ih =>
    intro m hm
    simp only [DataW.weightsAll, List.mem_append]
    rcases List.mem_cons.1 h with rfl | h
    · exact .inl hm
    · exact .inr (ih h m hm)

/-- Element by element. -/
theorem each_elem {e : Ty} (he : Q1 enc P w base spare held e) {te : TypeId} (hok : okTy P e te = true) (a : Addr) (n : Nat) : ∀ (len k : Nat) (elems : List (DataW H × List MemPlace)), elems.length = len →
    (∀ i, i < len → (w.cells? base (a.add ((k + i) * P.cellsOf te)) (P.cellsOf te)).bind (DataW.trod enc P w base spare held n te) = elems[i]?) →
    ∃ (vss : List (List Value)) (l : List e.El), vss.length = len ∧ l.length = len ∧
      (∀ (j : Nat) (v : List Value), vss[j]? = some v → w.cells? base (a.add ((k + j) * P.cellsOf te)) (P.cellsOf te) = some v) ∧
      (∀ (j : Nat) (v : List Value) (x : e.El), vss[j]? = some v → l[j]? = some x → v.length = e.cells ∧ Rd w e v x) ∧
      (∀ (j : Nat) (x : e.El) (y : DataW H × List MemPlace), l[j]? = some x → elems[j]? = some y → ((∀ m ∈ y.1.weights P te, m ≤ reachBytes) → Fit e x) ∧ Blk e x ≤ Rows.uptoBulk y.1)
  | 0, k, elems, hl, _ => ⟨[], [], rfl, rfl, by simp, by simp, by simp⟩
  | len + 1, k, [], hl, _ => by simp at hl
  | len + 1, k, y :: elems, hl, hel => by
    obtain ⟨vss, l, h1, h2, h3, h4, h5⟩ := each_elem he hok a n len (k + 1) elems (by simpa using hl) (fun i hi => by
      have := hel (i + 1) (by omega)
      rw [show k + 1 + i = k + (i + 1) from by omega]
      simpa using this)
    have h0 := hel 0 (by omega)
    simp only [Nat.add_zero, List.getElem?_cons_zero] at h0
    obtain ⟨v, hv, htr⟩ := Option.bind_eq_some_iff.1 h0
    obtain ⟨hvl, x, hr, hf, hb⟩ := he te n v y hok htr
    refine ⟨v :: vss, x :: l, by simp [h1], by simp [h2], ?_, ?_, ?_⟩
    · intro j u hu
      cases j with
      | zero => simp at hu; subst hu; simpa using hv
      | succ j => have := h3 j u (by simpa using hu); rw [show k + (j + 1) = k + 1 + j from by omega]; exact this
    · intro j u z hu hz
      cases j with
      | zero => simp at hu hz; subst hu; subst hz; exact ⟨hvl, hr⟩
      | succ j => exact h4 j u z (by simpa using hu) (by simpa using hz)
    · intro j z d hz hd
      cases j with
      | zero => simp at hz hd; subst hz; subst hd; exact ⟨hf, hb⟩
      | succ j => exact h5 j z d (by simpa using hz) (by simpa using hd)

/-- The cells of rows of equal length, one behind the other. -/
theorem flat_get : ∀ (vss : List (List Value)) (c : Nat), 0 < c → (∀ v ∈ vss, v.length = c) → ∀ (i : Nat) (u : Value), vss.flatten[i]? = some u → ∃ v, vss[i / c]? = some v ∧ v[i % c]? = some u
  | [], c, _, _, i, u, h => by simp at h
  | v :: vss, c, hc, hl, i, u, h => by
    have hv := hl v (by simp)
    rw [List.flatten_cons] at h
    by_cases hi : i < c
    · rw [List.getElem?_append_left (by omega)] at h
      refine ⟨v, ?_, ?_⟩
      · rw [Nat.div_eq_of_lt hi]; rfl
      · rw [Nat.mod_eq_of_lt hi]; exact h
    · rw [List.getElem?_append_right (by omega), hv] at h
      obtain ⟨v', h1, h2⟩ := flat_get vss c hc (fun x hx => hl x (by simp [hx])) (i - c) u h
      refine ⟨v', ?_, ?_⟩
      · have : i / c = (i - c) / c + 1 := by rw [← Nat.add_div_right _ hc]; congr 1; omega
        rw [this]; exact h1
      · have : i % c = (i - c) % c := by rw [← Nat.add_mod_right (i - c) c]; congr 1; omega
        rw [this]; exact h2

theorem rd_all : ∀ T : Ty, Q1 enc P w base spare held T ∧ Q2 enc P w base spare held T
  | .int k => by
    refine ⟨?_, ?_⟩
    · intro t fuel cs x hok h
      simp only [okTy] at hok
      split at hok
      · rename_i k' hu
        obtain rfl : k' = k := by simpa using hok
        obtain ⟨n, rfl, rfl, hw⟩ := DataW.trod_int hu h
        exact ⟨rfl, n, ⟨rfl, hw⟩, fun _ => trivial, bulk_one_le _⟩
      · cases hok
    · intro fs off n cs xs hok; simp [okFs] at hok
  | .bool => by
    refine ⟨?_, ?_⟩
    · intro t fuel cs x hok h
      simp only [okTy] at hok
      split at hok
      · rename_i hu
        obtain ⟨b, rfl, rfl⟩ := DataW.trod_bool hu h
        exact ⟨rfl, b, rfl, fun _ => trivial, bulk_one_le _⟩
      · cases hok
    · intro fs off n cs xs hok; simp [okFs] at hok
  | .str => by
    refine ⟨?_, ?_⟩
    · intro t fuel cs x hok h
      simp only [okTy] at hok
      split at hok
      · rename_i hu
        obtain ⟨s, rfl, rfl, hs⟩ := DataW.trod_string hu h
        refine ⟨rfl, s.data.toList, ⟨rfl, hs⟩, fun hm => hm _ (by simp [DataW.weights]), ?_⟩
        simp [Blk, Rows.uptoBulk]
      · cases hok
    · intro fs off n cs xs hok; simp [okFs] at hok
  | .unit => ⟨fun t fuel cs x hok => by simp [okTy] at hok, q2_unit⟩
  | .pair a b => by
    have iha := rd_all a
    have ihb := rd_all b
    have h2 := q2_pair iha.1 ihb.2
    refine ⟨?_, h2⟩
    intro t fuel cs x hok h
    simp only [okTy] at hok
    split at hok
    · rename_i fs hu
      simp only [Bool.and_eq_true, beq_iff_eq] at hok
      obtain ⟨hc, hm⟩ := hok
      obtain ⟨xs, n, _, rfl, hl, hxl, htr⟩ := DataW.trod_struct hu h
      have hfs : okFs P (.pair a b) fs.toList 0 = true := by
        cases hfl : fs.toList with
        | nil => rw [hfl] at hm; cases hm
        | cons f r => rw [hfl] at hm; simpa [okFs] using hm
      obtain ⟨el, r, f, bk⟩ := h2 fs.toList 0 n cs xs hfs (by rw [hl, hc]; simp [Ty.cells]) (by simpa using hxl) (fun i g hg => htr i g (by simpa using hg))
      refine ⟨by rw [hl, hc]; rfl, el, by simpa using r, fun hm => f ?_, ?_⟩
      · intro m hmm
        exact hm m (by simpa [DataW.weights, hu] using hmm)
      · simp only [Rows.uptoBulk]; omega
    · cases hok
  | .slice e => by
    have ihe := (rd_all e).1
    refine ⟨?_, ?_⟩
    · intro t fuel cs x hok h
      simp only [okTy] at hok
      split at hok
      · rename_i te hu
        simp only [Bool.and_eq_true, beq_iff_eq, decide_eq_true_eq] at hok
        obtain ⟨⟨⟨h1, h2⟩, h3⟩, h4⟩ := hok
        rcases DataW.trod_slice hu h with ⟨rfl, rfl⟩ | ⟨a, len, cap, elems, rest, n, _, rfl, rfl, hb, hlc, hm, hlen, hel, _, _⟩
        · exact ⟨rfl, [], ⟨none, 0, [], rfl, fun _ => rfl, Nat.le_refl _, Nat.zero_le _, rfl, RowAt.nil _ _, by simp⟩, fun _ => ⟨by simp, by simp⟩, by simp [Blk, Rows.uptoBulk]⟩
        · obtain ⟨vss, l, g1, g2, g3, g4, g5⟩ := each_elem ihe h1 a n len 0 elems hlen (fun i hi => by rw [Nat.zero_add]; exact hel i hi)
          have hvl : ∀ v ∈ vss, v.length = e.cells := by
            intro v hv
            obtain ⟨j, hj, rfl⟩ := List.getElem_of_mem hv
            exact (g4 j _ l[j] (by simp [hj]) (by simp [show j < l.length by omega])).1
          refine ⟨rfl, l, ⟨some a, cap, vss, by rw [g2], by simp, by omega, hm, by omega, ?_, g4⟩, ?_, ?_⟩
          · intro i u hiu
            obtain ⟨v, hv, hvu⟩ := flat_get vss e.cells h3 hvl i u hiu
            have hc := g3 _ v hv
            rw [Nat.zero_add, h2] at hc
            have hcell := (World.cells?_some hc).2.2 (i % e.cells) (Nat.mod_lt _ h3)
            rw [hvu, Addr.add_add] at hcell
            rw [show i / e.cells * e.cells + i % e.cells = i from by rw [Nat.mul_comm]; exact Nat.div_add_mod _ _] at hcell
            have hsp : a.spot = none := by
              have hlt : 0 < vss.length := Nat.lt_of_le_of_lt (Nat.zero_le _) (List.getElem?_eq_some_iff.1 hv).1
              have hc0 := g3 0 vss[0] (by simp [hlt])
              simp only [Nat.zero_add, Nat.zero_mul] at hc0
              have := (World.cells?_some hc0).2.2 0 (by rw [h2]; exact h3)
              rw [Addr.add_add, show 0 + 0 = 0 from rfl] at this
              have hl0 : vss[0].length = e.cells := hvl _ (List.getElem_mem _)
              rw [List.getElem?_eq_getElem (by omega)] at this
              cases a with
              | mk b o s =>
                cases s with
                | none => rfl
                | some s => simp [Addr.add, World.cell?] at this; split at this <;> simp_all
            cases a with
            | mk b o s =>
              simp only at hsp
              subst hsp
              exact ⟨b, o, rfl, by rw [Addr.add_lit] at hcell; exact hcell⟩
          · intro hmm
            refine ⟨?_, ?_⟩
            · have := hmm ((elems.map (·.1)).length * P.bytesOf te + (rest.map (·.1)).length * P.bytesOf te) (by simp [DataW.weights, hu, Nat.add_mul])
              simp only [List.length_map] at this
              have h5 : l.length * e.bytes ≤ l.length * P.bytesOf te := Nat.mul_le_mul_left _ h4
              rw [g2] at h5 ⊢
              rw [hlen] at this
              omega
            · intro z hz
              obtain ⟨j, hj, rfl⟩ := List.getElem_of_mem hz
              refine (g5 j _ elems[j] (by simp [hj]) (by simp [show j < elems.length by omega])).1 fun m hm' => hmm m ?_
              simp only [DataW.weights, hu, List.mem_cons, List.mem_append]
              exact .inr (.inl (mem_weightsAll (List.mem_map.2 ⟨elems[j], List.getElem_mem _, rfl⟩) m hm'))
          · have := sum_le_bulk (H := H) l (elems.map (·.1)) (by simp; omega) (fun j x d hx hd => by
              rw [List.getElem?_map, Option.map_eq_some_iff] at hd
              obtain ⟨y, hy, rfl⟩ := hd
              exact (g5 j x y hx hy).2)
            simp only [Blk, Rows.uptoBulk]; omega
      · cases hok
    · intro fs off n cs xs hok; simp [okFs] at hok
end

/-- What a parameter's value is. -/
def ValOf : Ty → Value → List Value → Prop
  | .unit, v, cs => v = .agg cs.toArray
  | .pair _ _, v, cs => v = .agg cs.toArray
  | _, v, cs => cs = [v]

/-- The arguments vs hold what el tells, one behind the other. -/
def ArgsRd (w : World) : (T : Ty) → List Value → T.El → Prop
  | .pair a b, vs, x => ∃ v r cs, vs = v :: r ∧ ValOf a v cs ∧ Rd w a cs x.1 ∧ ArgsRd w b r x.2
  | .unit, vs, _ => vs = []
  | _, _, _ => False

def okArgs (P : Program) : Ty → List TypeId → Bool
  | .pair a b, t :: ts => okTy P a t && okArgs P b ts
  | .unit, [] => true
  | _, _ => false

section
variable {H : Type} {enc : TypeId × Value → H} {P : Program} {w : World} {base : Nat} {spare : Nat → Bool} {held : Bool}

theorem val_of {r : Reach} {b0 : Nat} : ∀ (a : Ty) {t : TypeId} {v : Value}, okTy P a t = true → Value.okWide P w r b0 t v → ValOf a v v.cells.toList
  | .int k, t, v, hok, hv => by
    simp only [okTy] at hok
    split at hok
    · rename_i hu; obtain ⟨n, rfl⟩ := okWide_int hu hv; rfl
    · cases hok
  | .bool, t, v, hok, hv => by
    simp only [okTy] at hok
    split at hok
    · rename_i hu; obtain ⟨n, rfl⟩ := okWide_bool hu hv; rfl
    · cases hok
  | .str, t, v, hok, hv => by
    simp only [okTy] at hok
    split at hok
    · rename_i hu; obtain ⟨n, rfl⟩ := okWide_string hu hv; rfl
    · cases hok
  | .slice e, t, v, hok, hv => by
    simp only [okTy] at hok
    split at hok
    · rename_i hu; obtain ⟨_, _, _, rfl⟩ := okWide_slice hu hv; rfl
    · cases hok
  | .unit, t, v, hok, hv => by simp [okTy] at hok
  | .pair a b, t, v, hok, hv => by
    simp only [okTy] at hok
    split at hok
    · rename_i hu; obtain ⟨cs, rfl, _⟩ := okWide_struct hu hv; simp [ValOf, Value.cells]
    · cases hok

theorem args_of {r : Reach} {b0 : Nat} : ∀ (T : Ty) (ts : List TypeId) (vs : List Value) (ds : List (DataW H)) (ps : List MemPlace), okArgs P T ts = true →
    (∀ (j : Nat) t v, ts[j]? = some t → vs[j]? = some v → Value.okWide P w r b0 t v) → DataW.TrodAll enc P w base spare held ts vs ds ps →
    ∃ el : T.El, ArgsRd w T vs el ∧ ((∀ m ∈ DataW.weightsEach P ts ds, m ≤ reachBytes) → Fit T el) ∧ Blk T el ≤ Rows.uptoBulkAll ds
  | .pair a b, ts, vs, ds, ps, hok, hval, hA => by
    cases ts with
    | nil => simp [okArgs] at hok
    | cons t ts =>
      simp only [okArgs, Bool.and_eq_true] at hok
      cases vs with
      | nil => cases hA
      | cons v vs =>
        cases ds with
        | nil => cases hA
        | cons d ds =>
          obtain ⟨p, q, ⟨fuel, h1⟩, h2, rfl⟩ := hA
          obtain ⟨_, e1, r1, f1, b1⟩ := (rd_all a).1 t fuel _ _ hok.1 h1
          obtain ⟨e2, r2, f2, b2⟩ := args_of b ts vs ds q hok.2 (fun j t v ht hv => hval (j + 1) t v ht hv) h2
          refine ⟨(e1, e2), ⟨v, vs, _, rfl, val_of a hok.1 (hval 0 t v rfl rfl), r1, r2⟩, ?_, ?_⟩
          · intro hm
            simp only [DataW.weightsEach, List.mem_append] at hm
            exact ⟨f1 fun m h => hm m (.inl h), f2 fun m h => hm m (.inr h)⟩
          · simp only [Blk, Rows.uptoBulkAll]; simp only at b1; omega
  | .unit, ts, vs, ds, ps, hok, hval, hA => by
    cases ts with
    | nil =>
      cases vs with
      | nil => exact ⟨(), rfl, fun _ => trivial, Nat.zero_le _⟩
      | cons v vs => cases hA
    | cons t ts => simp [okArgs] at hok
  | .int _, _, _, _, _, hok, _, _ => by simp [okArgs] at hok
  | .bool, _, _, _, _, hok, _, _ => by simp [okArgs] at hok
  | .str, _, _, _, _, hok, _, _ => by simp [okArgs] at hok
  | .slice _, _, _, _, _, hok, _, _ => by simp [okArgs] at hok

theorem trodAll_len : ∀ (ts : List TypeId) (vs : List Value) (ds : List (DataW H)) (ps : List MemPlace), DataW.TrodAll enc P w base spare held ts vs ds ps → ds.length = ts.length
  | [], [], [], _, _ => rfl
  | _ :: ts, _ :: vs, _ :: ds, _, h => by
    obtain ⟨p, q, _, h2, _⟩ := h
    simp [trodAll_len ts vs ds q h2]
  | [], [], _ :: _, _, h => by cases h
  | [], _ :: _, _, _, h => by cases h
  | _ :: _, [], _, _, h => by cases h
  | _ :: _, _ :: _, [], _, h => by cases h

theorem trodAll_stays {W' : World} (hl : laidOutB P = true) (hb : Below w.heap.size w W') : ∀ (ts : List TypeId) (vs : List Value) (ds : List (DataW H)) (ps : List MemPlace),
    ts.all (fun t => P.readableRec t && decide (t < P.types.size)) = true → DataW.TrodAll enc P w 0 (fun _ => true) true ts vs ds ps →
    DataW.TrodAll enc P W' 0 (fun b => decide (b < w.heap.size)) true ts vs ds ps
  | [], [], [], _, _, h => h
  | t :: ts, v :: vs, d :: ds, ps, hr, h => by
    simp only [List.all_cons, Bool.and_eq_true, decide_eq_true_eq] at hr
    obtain ⟨p, q, h1, h2, e⟩ := h
    refine ⟨p, q, Below.trod hl hr.1.1 hr.1.2 h1 hb ?_, trodAll_stays hl hb ts vs ds q hr.2 h2, e⟩
    obtain ⟨m, hm⟩ := h1
    exact DataW.trod_lt m _ _ _ hm
  | [], [], _ :: _, _, _, h => by cases h
  | [], _ :: _, _, _, _, h => by cases h
  | _ :: _, [], _, _, _, h => by cases h
  | _ :: _, _ :: _, [], _, _, h => by cases h
end

/-- What behind a law's walk is to be shown of the row. -/
theorem law_post {H : Type} {enc : TypeId × Value → H} {P : Program} {fn : Func} {s : ChangeSpec} {tb : TypeId} {W W' : World} {args : Array Value} {ds gs : List (DataW H)} {before : List MemPlace}
    (hl : laidOutB P = true) (hread : fn.params.toList.all (fun t => P.readableRec t && decide (t < P.types.size)) = true) (hvars : s.vars = []) (hres : fn.resultTypes = #[tb]) (hbool : P.underlying tb = some .bool)
    (hfn : ∀ ds : List (DataW H), ds.length = fn.params.toList.length → s.fn H ds = { results := [.lit (.bool true)], args := ds })
    (hW : DataW.Whole enc P fn.params.toList s.vars false W args.toList ds gs before) (hb : Below W.heap.size W W') :
    s.post enc P fn false true false false W args (.bool true) W' := by
  have hW' := hW
  obtain ⟨p, q, hA, hV, rfl, hfz, hnd⟩ := hW
  rw [hvars] at hV
  obtain ⟨rfl, rfl⟩ := trodVars_none hV
  have hlen := trodAll_len _ _ _ _ hA
  refine ⟨ds, [], _, [], p, [], hW', ?_, ?_, ?_, hb.frame _, fun h => by cases h⟩
  · rw [List.append_nil, hfn ds hlen, hres]
    exact trodAll_mk1 (shut_bool hbool true)
  · rw [List.append_nil, hfn ds hlen]
    exact trodAll_stays hl hb _ _ _ _ hread hA
  · rw [List.append_nil, hfn ds hlen, hvars]; rfl

theorem all_le {l : List Nat} (h : l.all (· ≤ reachBytes) = true) : ∀ m ∈ l, m ≤ reachBytes := fun m hm => by simpa using List.all_eq_true.1 h m hm

/-- The whole road from a law's walk to its row: the first form. -/
theorem law_said {H : Type} {enc : TypeId × Value → H} {P : Program} {f : FuncId} {fn : Func} {s : ChangeSpec} {tb : TypeId} (T : Ty) (hT : okArgs P T fn.params.toList = true)
    (hl : laidOutB P = true) (hread : fn.params.toList.all (fun t => P.readableRec t && decide (t < P.types.size)) = true) (hvars : s.vars = []) (hres : fn.resultTypes = #[tb]) (hbool : P.underlying tb = some .bool)
    (hfn : ∀ ds : List (DataW H), ds.length = fn.params.toList.length → s.fn H ds = { results := [.lit (.bool true)], args := ds })
    (walk : ∀ (W : World) (vs : List Value) (el : T.El), ArgsRd W T vs el → Fit T el → Calls P f vs.toArray W fun e w' => e = .returned (.bool true) ∧ Below W.heap.size W w')
    (W : World) (base : Nat) (args : Array Value) (ds gs : List (DataW H)) (before : List MemPlace)
    (hval : ∀ (j : Nat) t v, fn.params[j]? = some t → args[j]? = some v → Value.okWide P W .any base t v)
    (hW : DataW.Whole enc P fn.params.toList s.vars false W args.toList ds gs before)
    (hsz : (DataW.weightsEach P (fn.params.toList ++ s.plain.varTypes P) (ds ++ gs)).all (· ≤ reachBytes) = true) :
    Calls P f args W fun e W' => ∃ v, e = .returned v ∧ s.post enc P fn false true false false W args v W' := by
  have hW' := hW
  obtain ⟨p, q, hA, hV, rfl, hfz, hnd⟩ := hW
  rw [hvars] at hV
  obtain ⟨rfl, rfl⟩ := trodVars_none hV
  obtain ⟨el, r, ft, _⟩ := args_of T _ _ _ _ hT (fun j t v ht hv => hval j t v (by simpa using ht) (by simpa using hv)) hA
  have hvt : s.plain.varTypes P = [] := by simp [DataSpec.varTypes, ChangeSpec.plain, hvars]
  rw [hvt, List.append_nil, List.append_nil] at hsz
  have := walk W args.toList el r (ft (all_le hsz))
  refine this.mono fun e w' ⟨he, hb⟩ => ?_
  exact ⟨_, he, law_post hl hread hvars hres hbool hfn hW' hb⟩

/-- The whole road from a law's walk to its row: the second form. -/
theorem law_upto {H : Type} {enc : TypeId × Value → H} {P : Program} {f : FuncId} {fn : Func} {s : ChangeSpec} {tb : TypeId} (T : Ty) (hT : okArgs P T fn.params.toList = true)
    (hl : laidOutB P = true) (hread : fn.params.toList.all (fun t => P.readableRec t && decide (t < P.types.size)) = true) (hvars : s.vars = []) (hres : fn.resultTypes = #[tb]) (hbool : P.underlying tb = some .bool)
    (hfn : ∀ ds : List (DataW H), ds.length = fn.params.toList.length → s.fn H ds = { results := [.lit (.bool true)], args := ds })
    (walk : ∀ (W : World) (vs : List Value) (el : T.El), ArgsRd W T vs el → Blk T el ≤ 1048576 → Calls P f vs.toArray W fun e w' => e = .returned (.bool true) ∧ Below W.heap.size W w')
    (W : World) (base : Nat) (args : Array Value) (ds gs : List (DataW H)) (before : List MemPlace)
    (hval : ∀ (j : Nat) t v, fn.params[j]? = some t → args[j]? = some v → Value.okWide P W .any base t v)
    (hW : DataW.Whole enc P fn.params.toList s.vars false W args.toList ds gs before)
    (hk : Rows.uptoSmall H (ds ++ gs) = true) :
    Calls P f args W fun e W' => ∃ v, e = .returned v ∧ s.post enc P fn false true false false W args v W' := by
  have hW' := hW
  obtain ⟨p, q, hA, hV, rfl, hfz, hnd⟩ := hW
  rw [hvars] at hV
  obtain ⟨rfl, rfl⟩ := trodVars_none hV
  obtain ⟨el, r, _, hb⟩ := args_of T _ _ _ _ hT (fun j t v ht hv => hval j t v (by simpa using ht) (by simpa using hv)) hA
  rw [List.append_nil] at hk
  have hk' : Rows.uptoBulkAll ds ≤ 1048576 := of_decide_eq_true hk
  refine (walk W args.toList el r (Nat.le_trans hb hk')).mono fun e w' ⟨he, hb⟩ => ?_
  exact ⟨_, he, law_post hl hread hvars hres hbool hfn hW' hb⟩

/-- A slice whose elements take one cell each. -/
theorem rd_slice1 {w : World} {e : Ty} {v : Value} {l : List e.El} (f : e.El → Value) (hf : ∀ (c : List Value) (x : e.El), Rd w e c x → c = [f x]) (h : Rd w (.slice e) [v] l) :
    ∃ a cap, v = .slice a l.length cap ∧ (a = none → cap = 0) ∧ l.length ≤ cap ∧ cap ≤ maxLen ∧ RowAt w a (l.map f) ∧ ∀ x ∈ l, ∃ c, Rd w e c x := by
  obtain ⟨a, cap, vss, he, h0, h1, h2, hl, hr, hall⟩ := h
  simp only [List.cons.injEq, and_true] at he
  subst he
  have hv : vss = l.map fun x => [f x] := by
    apply List.ext_getElem
    · simp [hl]
    · intro j h3 h4
      have hj : j < l.length := by omega
      have := hf _ _ (hall j vss[j] l[j] (by simp [h3]) (by simp [hj])).2
      rw [this]; simp
  have hfl : vss.flatten = l.map f := by
    rw [hv]; clear hv hr hall hl h1 h0 h2
    induction l with
    | nil => rfl
    | cons x l ih => simp [ih]
  refine ⟨a, cap, rfl, h0, h1, h2, by rw [← hfl]; exact hr, ?_⟩
  intro x hx
  obtain ⟨j, hj, rfl⟩ := List.getElem_of_mem hx
  have h3 : j < vss.length := by omega
  exact ⟨vss[j], (hall j vss[j] l[j] (by simp [h3]) (by simp [hj])).2⟩

/-- A []byte. -/
theorem bytes_of_rd {w : World} {v : Value} {l : List Int} (h : Rd w (.slice (.int .u8)) [v] l) : ∃ bs : List UInt8, bs.length = l.length ∧ IsBytes w v bs ∧ l = bs.map (fun x => (x.toNat : Int)) := by
  obtain ⟨a, cap, rfl, h0, h1, h2, hr, hall⟩ := rd_slice1 (e := .int .u8) (Value.int .u8) (fun c x hx => hx.1) h
  have hb : ∀ n ∈ l, 0 ≤ n ∧ n < 256 := by
    intro n hn
    obtain ⟨c, _, hw⟩ := hall n hn
    simp [Lit.wf, IntKind.min, IntKind.max, IntKind.signed, IntKind.bits] at hw
    omega
  have hm : (l.map fun n => UInt8.ofNat n.toNat).map (fun x => (x.toNat : Int)) = l := by
    rw [List.map_map]
    conv => rhs; rw [← List.map_id l]
    apply List.map_congr_left
    intro n hn
    have := hb n hn
    have h3 : (UInt8.ofNat n.toNat).toNat = n.toNat := by
      simpa using Nat.mod_eq_of_lt (show n.toNat < 256 by omega)
    simp only [Function.comp_apply, h3, id]; omega
  refine ⟨l.map fun n => UInt8.ofNat n.toNat, by simp, ?_, hm.symm⟩
  refine ⟨a, cap, by simp, ?_, h0, by simpa using h1, h2⟩
  have : (l.map fun n => UInt8.ofNat n.toNat).map byt = l.map (Value.int .u8) := by
    conv => rhs; rw [← hm]
    rw [List.map_map, List.map_map, List.map_map]; rfl
  rw [this]; exact hr

/-- A []int. -/
theorem ints_of_rd {w : World} {v : Value} {l : List Int} (h : Rd w (.slice (.int .i64)) [v] l) : ∃ a cap, v = .slice a l.length cap ∧ (a = none → cap = 0) ∧ l.length ≤ cap ∧ cap ≤ maxLen ∧ RowAt w a (l.map (Value.int .i64)) := by
  obtain ⟨a, cap, rfl, h0, h1, h2, hr, _⟩ := rd_slice1 (e := .int .i64) (Value.int .i64) (fun c x hx => hx.1) h
  exact ⟨a, cap, rfl, h0, h1, h2, hr⟩


theorem blk_len {e : Ty} (h : ∀ x : e.El, 1 ≤ Blk e x) (l : List e.El) : l.length ≤ (l.map (Blk e)).sum := by
  induction l with
  | nil => simp
  | cons x l ih => have := h x; simp only [List.length_cons, List.map_cons, List.sum_cons]; omega
/-- How many elements a slice has, out of its bulk. -/
theorem blk_slice {e : Ty} (h : ∀ x : e.El, 1 ≤ Blk e x) (l : List e.El) : l.length + 1 ≤ Blk (.slice e) l := Nat.succ_le_succ (blk_len h l)
theorem blk_mem {e : Ty} {l : List e.El} {x : e.El} (h : x ∈ l) : Blk e x + 1 ≤ Blk (.slice e) l := by
  have : Blk e x ≤ (l.map (Blk e)).sum := by
    induction l with
    | nil => cases h
    | cons y l ih =>
      simp only [List.map_cons, List.sum_cons]
      rcases List.mem_cons.1 h with rfl | h
      · omega
      · have := ih h; omega
  exact Nat.succ_le_succ this
end Go.Proofs.YteiifligdfnifaaDoor
