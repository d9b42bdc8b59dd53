/-
  Reconf: BinarySearch, Place, At, New, Next; SameInts.
-/
import Derived.Test.YtmhlckicjojmoaaRec3
namespace Go.Proofs.Ytmhlckicjojmoaa
open Go.RowKit
set_option maxRecDepth 20000
set_option linter.unusedVariables false

theorem cmp_nan (x : Int) (w : World) : Calls Try.prog 47 #[.int .i64 x] w fun e w' => e = .returned (.bool false) ∧ w = w' := by
  have e1 : (x == x) = true := beq_self_eq_true x
  have e2 : (x != x) = false := by unfold bne; rw [e1]; rfl
  go_enter Try.func47, Try.ntmps47
  go_wp2_with fail
  go_ret
  exact ⟨rfl, rfl⟩
theorem sl_nan (x : Int) (w : World) : Calls Try.prog 51 #[.int .i64 x] w fun e w' => e = .returned (.bool false) ∧ w = w' := by
  have e1 : (x == x) = true := beq_self_eq_true x
  have e2 : (x != x) = false := by unfold bne; rw [e1]; rfl
  go_enter Try.func51, Try.ntmps51
  go_wp2_with fail
  go_ret
  exact ⟨rfl, rfl⟩
theorem cmp_less (x y : Int) (w : World) : Calls Try.prog 50 #[.int .i64 x, .int .i64 y] w fun e w' => e = .returned (.bool (decide (x < y))) ∧ w = w' := by
  go_enter Try.func50, Try.ntmps50
  go_wp2_with fail
  refine (cmp_nan x w).mono ?_
  rintro e w1 ⟨rfl, rfl⟩
  go_wp2_with fail
  go_ret
  exact ⟨rfl, rfl⟩

def atI (l : List Int) (q : Int) : Int := if 0 ≤ q then l.getD q.toNat 0 else 0
def atB (l : List Int) (q : Int) : Bool := decide (0 ≤ q ∧ q < l.length)
theorem mem_at (a : Option Addr) (c : Nat) (l : List Int) (q : Int) (w : World) (hr : RowAt w a (l.map (Value.int .i64))) (hm : l.length ≤ 4611686018427387904) :
    Calls Try.prog 14 #[.slice a l.length c, .int .i64 q] w fun e w' => e = .returned (.tuple #[.int .i64 (atI l q), .bool (atB l q)]) ∧ w = w' := by
  by_cases h0 : q < 0
  · have HE : Hid (atI l q = 0 ∧ atB l q = false) := ⟨if_neg (by omega), decide_eq_false (by omega)⟩
    go_enter Try.func14, Try.ntmps14
    go_wp2_with fail
    go_ret2
    exact ⟨by rw [HE.out.1, HE.out.2]; rfl, rfl⟩
  · by_cases h1 : q < l.length
    · obtain ⟨k, rfl⟩ : ∃ k : Nat, q = k := ⟨q.toNat, by omega⟩
      have hk : k < l.length := by omega
      obtain ⟨b, o, rfl, hc⟩ := hr.at k (by simpa using hk)
      simp only [List.getElem_map] at hc
      have HE : Hid (atI l k = l[k] ∧ atB l k = true) := ⟨by unfold atI; rw [if_pos (by omega)]; simp [hk], decide_eq_true (by omega)⟩
      clear hr
      generalize l[k] = x at *
      go_enter Try.func14, Try.ntmps14
      go_wp2_with fail
      go_ret2
      exact ⟨by rw [HE.out.1, HE.out.2]; rfl, rfl⟩
    · have HE : Hid (atI l q = 0 ∧ atB l q = false) := ⟨by unfold atI; rw [if_pos (by omega), List.getD_eq_getElem?_getD, List.getElem?_eq_none (by omega)]; rfl, decide_eq_false (by omega)⟩
      clear hr
      go_enter Try.func14, Try.ntmps14
      go_wp2_with fail
      go_ret2
      exact ⟨by rw [HE.out.1, HE.out.2]; rfl, rfl⟩

theorem own_ge' {w : World} {base : Nat} {e : TypeId} {size n m k : Nat} {v : Value} {ad : Addr} {xs : List Value} (h : w.ownsRow base e size v n xs) (hv : v = .slice (some ad) m k) : base ≤ ad.block := by
  rcases h.2 with ⟨e, _⟩ | ⟨g, cap, cur, e, hb, _⟩
  · rw [hv] at e; simp at e
  · rw [hv] at e
    simp only [Value.slice.injEq, Option.some.injEq] at e
    rw [e.1]; exact hb
theorem IsInts.kept {w w' : World} {b' : Nat} {v : Value} {l : List Int} (h : IsInts w v l) (hk : Kept w.heap.size b' w w') (hn : ∀ ad n k, v = .slice (some ad) n k → ad.block ≠ b') : IsInts w' v l := by
  obtain ⟨a, c, rfl, hr, h3⟩ := h
  exact ⟨a, c, rfl, hr.kept hk (fun ad e => hn ad _ _ (by rw [e])), h3⟩
def NumIn (n : Int) : Prop := 0 ≤ n ∧ n ≤ 4611686018427387903
def NewPost (l : List Int) (n : Int) (w : World) (e : Ending) (w' : World) : Prop := Below w.heap.size w w' ∧
  ((¬ NumIn n ∧ e = .returned (.tuple #[.pointer none, .int .i64 191])) ∨ (NumIn n ∧ ¬ RightM l ∧ e = .returned (.tuple #[.pointer none, .int .i64 190])) ∨ (NumIn n ∧ RightM l ∧ ∃ b, e = .returned (.tuple #[.pointer (some ⟨b, 0, none⟩), .int .i64 0]) ∧ EpAt w' b l n ∧ w.heap.size ≤ b ∧ ∀ (B : Nat) w'', B < w.heap.size → Kept w'.heap.size B w' w'' → EpAt w'' b l n))

set_option maxHeartbeats 1000000 in
theorem rec_new (a : Option Addr) (c : Nat) (l : List Int) (n : Int) (w : World) (hr : RowAt w a (l.map (Value.int .i64))) (h0 : a = none → c = 0) (hm : l.length * 8 ≤ 140737488355328) :
    Calls Try.prog 8 #[.int .i64 n, .slice a l.length c] w (NewPost l n w) := by
  go_enter Try.func8, Try.ntmps8
  go_wp2_with fail
  refine (clone_ints a c l w hr h0 hm).mono ?_
  rintro e w1 ⟨v, rfl, ho, hb⟩
  have HO := hid (owns_ints ho)
  have HGE := hid (fun ad n k (e : v = .slice (some ad) n k) => own_ge' ho e)
  have HB := hid hb
  clear hr ho hb h0
  by_cases hn0 : n < 0
  · go_wp2_with fail
    go_ret2
    exact ⟨HB.out, .inl ⟨fun h => by have := h.1; omega, rfl⟩⟩
  by_cases hn1 : 4611686018427387903 < n
  · go_wp2_with fail
    go_ret2
    exact ⟨HB.out, .inl ⟨fun h => by have := h.2; omega, rfl⟩⟩
  have HN : Hid (NumIn n) := ⟨by omega, by omega⟩
  obtain ⟨va, vc, rfl, hvr, -⟩ := HO.out
  go_wp2_with fail
  refine (rec_right va vc l w1 hvr (by omega)).mono ?_
  rintro e w2 ⟨b, rfl, hb, rfl⟩
  have HR := hid hb
  clear hb hvr
  cases b with
  | false =>
    go_wp2_with fail
    go_ret2
    exact ⟨HB.out, .inr (.inl ⟨HN.out, fun h => by have := HR.out.2 h; simp at this, rfl⟩)⟩
  | true =>
    go_wp2_with fail
    go_ret2
    exact ⟨HB.out.alloc HB.out.size _, .inr (.inr ⟨HN.out, HR.out.1 (by first | rfl | trivial), w1.heap.size, rfl, ⟨_, ObjAt.new _ _ _, HO.out.below (below_new _)⟩, HB.out.size, fun B w'' hlt hk => ⟨_, (ObjAt.new _ _ _).kept hk (by have := HB.out.size; omega), (HO.out.below (below_new _)).kept hk (fun ad n k e => by have := HGE.out ad n k e; omega)⟩⟩)⟩

def NextPost (n : Int) (l : List Int) (w : World) (e : Ending) (w' : World) : Prop := Below w.heap.size w w' ∧
  ((n = 4611686018427387903 ∧ e = .returned (.tuple #[.pointer none, .int .i64 191])) ∨ (n ≠ 4611686018427387903 ∧ ¬ RightM l ∧ e = .returned (.tuple #[.pointer none, .int .i64 190])) ∨ (n ≠ 4611686018427387903 ∧ RightM l ∧ ∃ b, e = .returned (.tuple #[.pointer (some ⟨b, 0, none⟩), .int .i64 0]) ∧ EpAt w' b l (n + 1) ∧ w.heap.size ≤ b))

set_option maxHeartbeats 1000000 in
theorem ep_next (eb : Nat) (ml : List Int) (n : Int) (a : Option Addr) (c : Nat) (l : List Int) (w : World) (h : EpAt w eb ml n) (hn : NumIn n) (hr : RowAt w a (l.map (Value.int .i64))) (h0 : a = none → c = 0) (hm : l.length * 8 ≤ 140737488355328) :
    Calls Try.prog 20 #[.pointer (some ⟨eb, 0, none⟩), .slice a l.length c] w (NextPost n l w) := by
  obtain ⟨v, ho, -⟩ := h
  have c1 := ObjAt.cell ho 1 (.int .i64 n) rfl
  clear ho
  obtain ⟨hn0, hn1⟩ := hn
  by_cases hx : n = 4611686018427387903
  · have e1 : (n == 4611686018427387903) = true := beq_iff_eq.2 hx
    have HX := hid hx
    clear hx hr
    go_enter Try.func20, Try.ntmps20
    go_wp2_with fail
    go_ret2
    exact ⟨Below.refl _ _, .inl ⟨HX.out, rfl⟩⟩
  · have e1 : (n == 4611686018427387903) = false := beq_eq_false_iff_ne.2 hx
    have HX := hid hx
    have HR := hid hr
    clear hr
    go_enter Try.func20, Try.ntmps20
    go_wp2_with fail
    refine (rec_new a c l (n + 1) w HR.out h0 hm).mono ?_
    rintro e w1 ⟨hb, ⟨h1, rfl⟩ | ⟨h1, h2, rfl⟩ | ⟨h1, h2, b, rfl, h3, h4, -⟩⟩
    · exact absurd ⟨by omega, by omega⟩ h1
    · have HB := hid hb
      clear hb e1 hx
      go_wp2_with fail
      go_ret2
      exact ⟨HB.out, .inr (.inl ⟨HX.out, h2, rfl⟩)⟩
    · have HB := hid hb
      clear hb e1 hx
      go_wp2_with fail
      go_ret2
      exact ⟨HB.out, .inr (.inr ⟨HX.out, h2, b, rfl, h3, h4⟩)⟩

def SearchPost (l : List Int) (r : Int) (w : World) (e : Ending) (w' : World) : Prop := (∃ (p : Int) (b : Bool), e = .returned (.tuple #[.int .i64 p, .bool b]) ∧ (b = true → p = placeI l r ∧ 0 ≤ placeI l r) ∧ (b = false → placeI l r = -1)) ∧ w = w'

set_option maxHeartbeats 1000000 in
theorem mem_search (a : Option Addr) (c : Nat) (l : List Int) (r : Int) (w : World) (hr : RowAt w a (l.map (Value.int .i64))) (hl : RightM l) :
    Calls Try.prog 43 #[.slice a l.length c, .int .i64 r] w (SearchPost l r w) := by
  have HR := hid hr
  have HL := hid hl
  have h7 := hl.2.2
  clear hr hl
  go_enter Try.func43, Try.ntmps43
  go_wp2_with fail
  go_loop [7, 8] (fun i j => ∃ p q : Nat, i = .int .i64 p ∧ j = .int .i64 q ∧ p ≤ q ∧ q ≤ l.length ∧ Hid (∀ (m : Nat) (hm : m < l.length), m < p → l[m] < r) ∧ Hid (∀ (m : Nat) (hm : m < l.length), q ≤ m → r ≤ l[m])) (fun i j => (intOf j).toNat - (intOf i).toNat)
  case atStart => exact ⟨0, l.length, rfl, rfl, Nat.zero_le _, Nat.le_refl _, fun m _ h => absurd h (Nat.not_lt_zero _), fun m hm h => by omega⟩
  case round =>
    obtain ⟨p, q, rfl, rfl, hpq, hql, HA, HZ⟩ := hrel
    by_cases hlt : p < q
    · obtain ⟨m, hm⟩ : ∃ m : Nat, ((p : Int) + q) / 2 = m := ⟨(p + q) / 2, by omega⟩
      have hpm : p ≤ m := by omega
      have hmq : m < q := by omega
      have hml : m < l.length := by omega
      obtain ⟨b, o, rfl, hc⟩ := HR.out.at m (by simpa using hml)
      simp only [List.getElem_map] at hc
      have H1 : Hid (l[m] < r → ∀ (j : Nat) (hj : j < l.length), j < m + 1 → l[j] < r) := fun h j hj hjm => by
        rcases Nat.lt_or_ge j m with g | g
        · have := HL.out.rise g hml; omega
        · obtain rfl : j = m := by omega
          exact h
      have H2 : Hid (¬ l[m] < r → ∀ (j : Nat) (hj : j < l.length), m ≤ j → r ≤ l[j]) := fun h j hj hjm => by
        rcases Nat.lt_or_ge m j with g | g
        · have := HL.out.rise g hj; omega
        · obtain rfl : j = m := by omega
          omega
      generalize l[m] = x at *
      go_wp2_with fail
      refine (cmp_less x r w).mono ?_
      rintro e w1 ⟨rfl, rfl⟩
      by_cases hx : x < r
      · have HX := hid (H1.out hx)
        go_wp2_with fail
        go_round
        case rel => exact ⟨m + 1, q, by go_num, rfl, by omega, hql, HX, HZ⟩
        case measure => simp [intOf]; omega
      · have HX := hid (H2.out (by omega))
        go_wp2_with fail
        go_round
        case rel => exact ⟨p, m, rfl, by go_num, by omega, by omega, HA, HX⟩
        case measure => simp [intOf]; omega
    · obtain rfl : q = p := by omega
      by_cases hpl : q < l.length
      · obtain ⟨b, o, rfl, hc⟩ := HR.out.at q (by simpa using hpl)
        simp only [List.getElem_map] at hc
        have HP : Hid (l[q] = r → (q : Int) = placeI l r) := fun e => (placeI_at hpl e (fun j hj hjq => by have := HA.out j hj hjq; omega)).symm
        have HQ : Hid (l[q] ≠ r → placeI l r = -1) := fun e => placeI_none (fun j hj => by
          rcases Nat.lt_or_ge j q with g | g
          · have := HA.out j hj g; omega
          · have h1 := HZ.out q hpl (Nat.le_refl _)
            rcases Nat.lt_or_ge q j with g' | g'
            · have := HL.out.rise g' hj; omega
            · obtain rfl : j = q := by omega
              exact e)
        generalize l[q] = x at *
        by_cases hx : x = r
        · have e1 : (x == r) = true := beq_iff_eq.2 hx
          have HX := hid (HP.out hx)
          clear hx
          go_wp2_with fail
          go_ret2
          exact ⟨⟨q, true, rfl, (fun _ => ⟨HX.out, by rw [← HX.out]; omega⟩), fun h => by cases h⟩, rfl⟩
        · have e1 : (x == r) = false := beq_eq_false_iff_ne.2 hx
          have HX := hid (HQ.out hx)
          clear hx
          go_wp2_with fail
          refine (sl_nan x w).mono ?_
          rintro e w1 ⟨rfl, rfl⟩
          go_wp2_with fail
          go_ret2
          exact ⟨⟨q, false, rfl, (fun h => by cases h), fun _ => HX.out⟩, rfl⟩
      · have HX : Hid (placeI l r = -1) := placeI_none (fun j hj => by have := HA.out j hj (by omega); omega)
        go_wp2_with fail
        go_ret2
        exact ⟨⟨q, false, rfl, (fun h => by cases h), fun _ => HX.out⟩, rfl⟩

theorem mem_place (a : Option Addr) (c : Nat) (l : List Int) (r : Int) (w : World) (hr : RowAt w a (l.map (Value.int .i64))) (hl : RightM l) :
    Calls Try.prog 29 #[.slice a l.length c, .int .i64 r] w (SearchPost l r w) := by
  go_enter Try.func29, Try.ntmps29
  go_wp2_with fail
  refine (mem_search a c l r w hr hl).mono ?_
  rintro e w1 ⟨⟨p, b, rfl, h1, h2⟩, rfl⟩
  have H1 := hid h1
  have H2 := hid h2
  clear h1 h2
  go_wp2_with fail
  go_ret2
  exact ⟨⟨p, b, rfl, H1.out, H2.out⟩, rfl⟩

def placeP (l : List Int) (r : Int) : Int := max 0 (placeI l r)
def placeB (l : List Int) (r : Int) : Bool := decide (0 ≤ placeI l r)
theorem ep_place (eb : Nat) (l : List Int) (n r : Int) (w : World) (h : EpAt w eb l n) (hl : RightM l) :
    Calls Try.prog 12 #[.pointer (some ⟨eb, 0, none⟩), .int .i64 r] w fun e w' => e = .returned (.tuple #[.int .i64 (placeP l r), .bool (placeB l r)]) ∧ w = w' := by
  obtain ⟨v, ho, hv⟩ := h
  obtain ⟨a, c, rfl, hr, -⟩ := hv
  have c0 := ObjAt.cell ho 0 (.slice a l.length c) rfl
  clear ho
  have HR := hid hr
  clear hr
  go_enter Try.func12, Try.ntmps12
  go_wp2_with fail
  refine (mem_place a c l r w HR.out hl).mono ?_
  rintro e w1 ⟨⟨p, b, rfl, h1, h2⟩, rfl⟩
  cases b with
  | false =>
    have e := h2 rfl
    have HE : Hid (placeP l r = 0 ∧ placeB l r = false) := by unfold placeP placeB; rw [e]; exact ⟨by decide, by decide⟩
    clear h1 h2 e c0 hl
    go_wp2_with fail
    go_ret2
    exact ⟨by rw [HE.out.1, HE.out.2]; rfl, rfl⟩
  | true =>
    have e := h1 rfl
    have HE : Hid (placeP l r = p ∧ placeB l r = true) := ⟨by unfold placeP; omega, decide_eq_true e.2⟩
    clear h1 h2 e c0 hl
    go_wp2_with fail
    go_ret2
    exact ⟨by rw [HE.out.1, HE.out.2]; rfl, rfl⟩
end Go.Proofs.Ytmhlckicjojmoaa
