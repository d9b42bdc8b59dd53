/-
  client.New.
-/
import Derived.Test.YteiifligdfnifaaDoorCl2
namespace Go.Proofs.YteiifligdfnifaaDoor
open Go.RowKit
set_option maxRecDepth 20000
set_option linter.unusedVariables false

structure Cfg where
  home : List UInt8
  nonce : Int
  lease : Int
  S : List Int
  sa : Option Addr
  sc : Nat
  pat : Int
  p : Int
  q : Int
def cfC (c : Cfg) : List Value := [.string ⟨c.home.toArray⟩, .int .i64 c.nonce, .int .i64 c.lease, .slice c.sa c.S.length c.sc, .int .i64 c.pat, .int .i64 c.p, .int .i64 c.q]
def RightC (c : Cfg) : Prop := RightD c.p c.q ∧ nameOk c.home = true ∧ (1 ≤ c.nonce ∧ c.nonce ≤ 1099511627776) ∧ (1 ≤ c.lease ∧ c.lease ≤ 1048576) ∧ (1 ≤ c.S.length ∧ c.S.length ≤ 8) ∧ c.S.any badS = false ∧ (1 ≤ c.pat ∧ c.pat ≤ 1048576)
def callZ : Nat → Value
  | 1 => .string ⟨#[]⟩
  | 8 => .slice none 0 0
  | 9 => .string ⟨#[]⟩
  | 10 => .bool false
  | 12 => .slice none 0 0
  | _ => .int .i64 0
/-- A new client. -/
def clNew (c : Cfg) (hp : Nat) (sv : Value) : Cl := ⟨hp, 0, 0, 0, false, 0, callZ, .slice none 0 0, 0, 0, false, c.home, c.nonce, c.lease, sv, c.pat, c.p, c.q, 0, 0⟩
def NewP (w : World) (c : Cfg) (e : Ending) (w' : World) : Prop := Below w.heap.size w w' ∧
  ((RightC c ∧ ∃ cb hp sv, e = .returned (.tuple #[.pointer (some ⟨cb, 0, none⟩), .int .i64 0]) ∧ ClAt w' cb (clNew c hp sv) c.S [] ∧ HAt w' hp c.p c.q 0 ∧ w.heap.size ≤ cb ∧ w.heap.size ≤ hp ∧ (∀ g, sv.ownBlock = some g → w.heap.size ≤ g)) ∨
   (¬ RightC c ∧ e = .returned (.tuple #[.pointer none, .int .i64 200])))

set_option maxHeartbeats 4000000 in
theorem cl_new (c : Cfg) (w : World) (hr : RowAt w c.sa (c.S.map (Value.int .i64))) (h0 : c.sa = none → c.sc = 0) (hm : c.S.length ≤ 140737488355328) :
    Calls Tryd.prog 7 #[.agg #[.string ⟨c.home.toArray⟩, .int .i64 c.nonce, .int .i64 c.lease, .slice c.sa c.S.length c.sc, .int .i64 c.pat, .int .i64 c.p, .int .i64 c.q]] w (NewP w c) := by
  have HR := hid hr
  have H0 := hid h0
  clear hr h0
  obtain ⟨home, nonce, lease, S, sa, sc, pat, p, q⟩ := c
  simp only at HR H0 hm ⊢
  have HC := hid (ObjAt.new w 26 #[.string ⟨home.toArray⟩, .int .i64 nonce, .int .i64 lease, .slice sa S.length sc, .int .i64 pat, .int .i64 p, .int .i64 q])
  have HB := hid (below_new (w := w) (.cells #[.string ⟨home.toArray⟩, .int .i64 nonce, .int .i64 lease, .slice sa S.length sc, .int .i64 pat, .int .i64 p, .int .i64 q] 26))
  have d5 := HC.out.cell 5 (.int .i64 p) rfl
  have d6 := HC.out.cell 6 (.int .i64 q) rfl
  go_enter Tryd.func7, Tryd.ntmps7
  go_wp2_with fail
  clear d5 d6
  refine (new_holder p q _).mono ?_
  rintro e1 w1 ⟨hb1, hy, hn⟩
  have HB1 := hid (below_next HB.out hb1)
  have HC1 := hid (HC.out.below hb1)
  change Hid (ObjAt w1 w.heap.size 26 #[.string ⟨home.toArray⟩, .int .i64 nonce, .int .i64 lease, .slice sa S.length sc, .int .i64 pat, .int .i64 p, .int .i64 q]) at HC1
  have hs1 : w.heap.size + 1 ≤ w1.heap.size := by have := hb1.size; simpa using this
  have hhb : w.heap.size ≤ (w.alloc (.cells #[.string ⟨home.toArray⟩, .int .i64 nonce, .int .i64 lease, .slice sa S.length sc, .int .i64 pat, .int .i64 p, .int .i64 q] 26)).heap.size := HB.out.size
  generalize (w.alloc (.cells #[.string ⟨home.toArray⟩, .int .i64 nonce, .int .i64 lease, .slice sa S.length sc, .int .i64 pat, .int .i64 p, .int .i64 q] 26)).heap.size = hz at *
  clear hb1 HB HC
  generalize hkb : w.heap.size = kb at HC1 hs1 hhb ⊢
  have HKB := hid hkb
  clear hkb
  by_cases hD : RightD p q
  · obtain ⟨hb, rfl, hhb2, hat⟩ := hy hD
    have HHP := hid hat
    have HD := hid hD
    clear hy hn hD hat
    have c0 := HC1.out.cell 0 (.string ⟨home.toArray⟩) rfl
    go_wp2_with fail
    refine (path_name ⟨home.toArray⟩ _).mono ?_
    rintro e2 w2 ⟨rfl, hb2⟩
    have HB2 := hid (below_next HB1.out hb2)
    have HC2 := hid (HC1.out.below hb2)
    have HHP2 : Hid (HAt w2 hb p q 0) := hid (ObjAt.below HHP.out hb2)
    clear hb2 HB1 HC1 HHP c0
    rw [show nameOk (bl ⟨home.toArray⟩) = nameOk home from rfl]
    cases hN : nameOk home with
    | false =>
      have HNO : Hid (¬ RightC ⟨home, nonce, lease, S, sa, sc, pat, p, q⟩) := fun h => by
        have h1 : nameOk home = true := h.2.1
        rw [hN] at h1; cases h1
      clear hN
      go_wp2_with fail
      go_ret2
      exact ⟨HB2.out, .inr ⟨HNO.out, rfl⟩⟩
    | true =>
      have HN := hid hN
      clear hN
      have c1 := HC2.out.cell 1 (.int .i64 nonce) rfl
      have c2 := HC2.out.cell 2 (.int .i64 lease) rfl
      have c3 := HC2.out.cell 3 (.slice sa S.length sc) rfl
      have c4 := HC2.out.cell 4 (.int .i64 pat) rfl
      go_wp2_with fail
      refine (cl_between nonce 1 1099511627776 _).mono ?_
      rintro e w3 ⟨rfl, rfl⟩
      by_cases h1 : (1 : Int) ≤ nonce ∧ nonce ≤ 1099511627776
      · rw [decide_eq_true h1]
        have H1 := hid h1
        clear h1
        go_wp2_with fail
        refine (cl_between lease 1 1048576 _).mono ?_
        rintro e w3 ⟨rfl, rfl⟩
        by_cases h2 : (1 : Int) ≤ lease ∧ lease ≤ 1048576
        · rw [decide_eq_true h2]
          have H2 := hid h2
          clear h2
          go_wp2_with fail
          refine (cl_between (S.length : Int) 1 8 _).mono ?_
          rintro e w3 ⟨rfl, rfl⟩
          by_cases h3 : (1 : Int) ≤ (S.length : Int) ∧ (S.length : Int) ≤ 8
          · rw [decide_eq_true h3]
            have H3 := hid h3
            clear h3
            go_wp2_with fail
            refine (cl_contains sa sc S _ (HR.out.below HB2.out) (by omega)).mono ?_
            rintro e w3 ⟨rfl, rfl⟩
            cases h4 : S.any badS with
            | true =>
              have HNO : Hid (¬ RightC ⟨home, nonce, lease, S, sa, sc, pat, p, q⟩) := fun h => by
                have h1 : S.any badS = false := h.2.2.2.2.2.1
                rw [h4] at h1; cases h1
              clear h4
              go_wp2_with fail
              go_ret2
              exact ⟨HB2.out, .inr ⟨HNO.out, rfl⟩⟩
            | false =>
              have H4 := hid h4
              clear h4
              go_wp2_with fail
              refine (cl_between pat 1 1048576 _).mono ?_
              rintro e w3 ⟨rfl, rfl⟩
              by_cases h5 : (1 : Int) ≤ pat ∧ pat ≤ 1048576
              · rw [decide_eq_true h5]
                have H5 := hid h5
                clear h5
                have HRC : Hid (RightC ⟨home, nonce, lease, S, sa, sc, pat, p, q⟩) := ⟨HD.out, HN.out, H1.out, H2.out, (by have := H3.out; show 1 ≤ S.length ∧ S.length ≤ 8; omega), H4.out, H5.out⟩
                go_wp2_with fail
                refine (cl_clone _ S sa sc _ rfl (HR.out.below HB2.out) H0.out (by have := H3.out; omega)).mono ?_
                rintro e w3 ⟨v3, rfl, ho3, hb3⟩
                obtain ⟨va, vc, rfl, -, -, -⟩ := owns_row ho3
                have HB3 := hid (below_next HB2.out hb3)
                have HC3 := hid (HC2.out.below hb3)
                have HHP3 : Hid (HAt w3 hb p q 0) := hid (ObjAt.below HHP2.out hb3)
                have HS2 := hid (HB2.out.size)
                have HO3 := hid ho3
                clear c1 c2 c3 c4 hb3 ho3 HB2 HC2 HHP2 H1 H2 H3 H4 H5 HN HD HR H0
                have c3 := HC3.out.cell 3 (.slice sa S.length sc) rfl
                have f3 := HC3.out.frozen 3
                have HC4 : Hid (ObjAt (w3.setCell ⟨kb, 3, none⟩ (.slice va S.length vc)) kb 26 #[.string ⟨home.toArray⟩, .int .i64 nonce, .int .i64 lease, .slice va S.length vc, .int .i64 pat, .int .i64 p, .int .i64 q]) := HC3.out.set 3 _
                have hks := KeptS.set (S := fun j => j = kb) w3 ⟨kb, 3, none⟩ (.slice va S.length vc) rfl
                have HHP4 : Hid (HAt (w3.setCell ⟨kb, 3, none⟩ (.slice va S.length vc)) hb p q 0) := hid (ObjAt.keptS HHP3.out hks (fun e => HC3.out.ne_obj HHP3.out (by decide) e.symm))
                have HO4 := hid (own_keptS HO3.out hks (fun g hg e => by
                  obtain ⟨cur, hc⟩ := own_objG HO3.out hg
                  exact HC3.out.ne_obj hc (by decide) e.symm))
                have HB4 : Hid (Below w.heap.size w (w3.setCell ⟨kb, 3, none⟩ (.slice va S.length vc))) := HB3.out.trans (hks.below (fun j hj => by rw [hj, HKB.out]; exact Nat.le_refl _) HB3.out.size)
                have HSZ : Hid (w.heap.size ≤ (w3.setCell ⟨kb, 3, none⟩ (.slice va S.length vc)).heap.size) := HB4.out.size
                have k0 := HC4.out.cell 0 (.string ⟨home.toArray⟩) rfl
                have k1 := HC4.out.cell 1 (.int .i64 nonce) rfl
                have k2 := HC4.out.cell 2 (.int .i64 lease) rfl
                have k3 := HC4.out.cell 3 (.slice va S.length vc) rfl
                have k4 := HC4.out.cell 4 (.int .i64 pat) rfl
                have k5 := HC4.out.cell 5 (.int .i64 p) rfl
                have k6 := HC4.out.cell 6 (.int .i64 q) rfl
                have HNC := hid (ObjAt.new (w3.setCell ⟨kb, 3, none⟩ (.slice va S.length vc)) 89 (clC (clNew ⟨home, nonce, lease, S, sa, sc, pat, p, q⟩ hb (.slice va S.length vc))))
                have HBN := hid (below_new (w := w3.setCell ⟨kb, 3, none⟩ (.slice va S.length vc)) (.cells (clC (clNew ⟨home, nonce, lease, S, sa, sc, pat, p, q⟩ hb (.slice va S.length vc))) 89))
                have HEND : Hid (NewP w ⟨home, nonce, lease, S, sa, sc, pat, p, q⟩ (.returned (.tuple #[.pointer (some ⟨(w3.setCell ⟨kb, 3, none⟩ (.slice va S.length vc)).heap.size, 0, none⟩), .int .i64 0])) ((w3.setCell ⟨kb, 3, none⟩ (.slice va S.length vc)).alloc (.cells (clC (clNew ⟨home, nonce, lease, S, sa, sc, pat, p, q⟩ hb (.slice va S.length vc))) 89))) := by
                  refine ⟨HB4.out.trans (HBN.out.mono HSZ.out), .inl ⟨HRC.out, _, hb, .slice va S.length vc, rfl, ⟨HNC.out, ?_, World.ownsRow_nil _ _ _ _⟩, ObjAt.below HHP4.out HBN.out, HSZ.out, ?_, fun g hg => ?_⟩⟩
                  · exact owns_base (owns_below HO4.out HBN.out) (Nat.zero_le _)
                  · rw [HKB.out]; omega
                  · have := (own_lt HO4.out g hg).1
                    exact Nat.le_trans HS2.out this
                have HSE : Hid ((w3.setCell ⟨kb, 3, none⟩ (.slice va S.length vc)).heap.size = w3.heap.size) := by show _ = _; simp
                clear hks HO3 HHP3 HC3
                go_wp2_with fail
                go_ret2
                have hend := HEND.out
                rw [HSE.out] at hend
                exact hend
              · have HNO : Hid (¬ RightC ⟨home, nonce, lease, S, sa, sc, pat, p, q⟩) := fun h => h5 h.2.2.2.2.2.2
                rw [decide_eq_false h5]
                clear h5
                go_wp2_with fail
                go_ret2
                exact ⟨HB2.out, .inr ⟨HNO.out, rfl⟩⟩
          · have HNO : Hid (¬ RightC ⟨home, nonce, lease, S, sa, sc, pat, p, q⟩) := fun h => h3 (by have h9 : 1 ≤ S.length ∧ S.length ≤ 8 := h.2.2.2.2.1; omega)
            rw [decide_eq_false h3]
            clear h3
            go_wp2_with fail
            go_ret2
            exact ⟨HB2.out, .inr ⟨HNO.out, rfl⟩⟩
        · have HNO : Hid (¬ RightC ⟨home, nonce, lease, S, sa, sc, pat, p, q⟩) := fun h => h2 h.2.2.2.1
          rw [decide_eq_false h2]
          clear h2
          go_wp2_with fail
          go_ret2
          exact ⟨HB2.out, .inr ⟨HNO.out, rfl⟩⟩
      · have HNO : Hid (¬ RightC ⟨home, nonce, lease, S, sa, sc, pat, p, q⟩) := fun h => h1 h.2.2.1
        rw [decide_eq_false h1]
        clear h1
        go_wp2_with fail
        go_ret2
        exact ⟨HB2.out, .inr ⟨HNO.out, rfl⟩⟩
  · have HNO : Hid (¬ RightC ⟨home, nonce, lease, S, sa, sc, pat, p, q⟩) := fun h => hD h.1
    rw [hn hD]
    clear hy hn hD
    go_wp2_with fail
    go_ret2
    exact ⟨HB1.out, .inr ⟨HNO.out, rfl⟩⟩
end Go.Proofs.YteiifligdfnifaaDoor
