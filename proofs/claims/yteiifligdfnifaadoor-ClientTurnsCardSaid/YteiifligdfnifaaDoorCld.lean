/-
  ClientTurns: the walk.
-/
import Derived.Test.YteiifligdfnifaaDoorClc
import Derived.Test.YteiifligdfnifaaDoorJoin
namespace Go.Proofs.YteiifligdfnifaaDoor
open Go.RowKit
set_option maxRecDepth 20000
set_option linter.unusedVariables false

def clW (c : Cfg) (hp n l : Nat) (sv bv : Value) (last : Int) (busy : Bool) (pos : Nat) : Cl := ⟨hp, 0, 0, 0, true, 1, callO c.home n l, bv, 0, last, busy, c.home, c.nonce, c.lease, sv, c.pat, c.p, c.q, pos, 1⟩
/-- What stands while the law goes on: the client, the arguments, what was sent first. -/
structure TurnW (w0 w : World) (c : Cfg) (n l : Nat) (cb kb sb hp : Nat) (sv bv va : Value) (x0 : Int) (last : Int) (busy : Bool) (pos : Nat) : Prop where
  cl : ClAt w cb (clW c hp n l sv bv last busy pos) c.S (openB c.home n l)
  cfg : ObjAt w kb 26 (cfC c).toArray
  snd : ObjAt w sb 39 #[.int .i64 x0, .int .i64 1, va]
  b : IsBytes w va (openB c.home n l)
  vb : ∀ g, va.ownBlock = some g → g ≠ cb
  low : Below w0.heap.size w0 w
  ge : w0.heap.size ≤ cb
  srv : RowAt w c.sa (c.S.map (Value.int .i64))
  lt : ∀ ad, c.sa = some ad → ad.block < w0.heap.size
theorem TurnW.size {w0 w : World} {c : Cfg} {n l : Nat} {cb kb sb hp : Nat} {sv bv va : Value} {x0 last : Int} {busy : Bool} {pos : Nat} (h : TurnW w0 w c n l cb kb sb hp sv bv va x0 last busy pos) : w0.heap.size ≤ w.heap.size := h.low.size
theorem TurnW.below {w0 w w' : World} {c : Cfg} {n l : Nat} {cb kb sb hp : Nat} {sv bv va : Value} {x0 last : Int} {busy : Bool} {pos : Nat} (h : TurnW w0 w c n l cb kb sb hp sv bv va x0 last busy pos) (hb : Below w.heap.size w w') : TurnW w0 w' c n l cb kb sb hp sv bv va x0 last busy pos :=
  ⟨h.cl.below hb, h.cfg.below hb, h.snd.below hb, h.b.below hb, h.vb, h.low.trans (hb.mono h.low.size), h.ge, h.srv.below hb, h.lt⟩
theorem TurnW.next {w0 w w' : World} {c : Cfg} {n l : Nat} {cb kb sb hp : Nat} {sv bv va : Value} {x0 last last' : Int} {busy busy' : Bool} {pos pos' : Nat} (h : TurnW w0 w c n l cb kb sb hp sv bv va x0 last busy pos) (hk : KeptS (fun j => j = cb) w w') (hc : ClAt w' cb (clW c hp n l sv bv last' busy' pos') c.S (openB c.home n l)) : TurnW w0 w' c n l cb kb sb hp sv bv va x0 last' busy' pos' :=
  ⟨hc, h.cfg.keptS hk (fun e => h.cfg.ne_obj h.cl.obj (by decide) e), h.snd.keptS hk (fun e => h.snd.ne_obj h.cl.obj (by decide) e), h.b.keptS hk (fun g hg e => h.vb g hg e), h.vb, h.low.trans (hk.below (fun j hj => by rw [hj]; exact h.ge) h.low.size), h.ge, h.srv.keptS hk (fun ad e hs => by have := h.lt ad e; have := h.ge; omega), h.lt⟩

set_option maxHeartbeats 8000000 in
theorem turns_walk (c : Cfg) (a : Option Addr) (cc : Nat) (bs : List Bool) (w : World) (hr : RowAt w c.sa (c.S.map (Value.int .i64))) (h0 : c.sa = none → c.sc = 0) (hm : c.S.length ≤ 140737488355328) (hbs : RowAt w a (bs.map Value.bool)) (hbl : bs.length ≤ 140737488355328) :
    Calls Tryd.prog 3 #[cfA c, .slice a bs.length cc] w fun e w' => e = .returned (.bool true) ∧ Below w.heap.size w w' := by
  have HR := hid hr
  have HBS := hid hbs
  have H0 := hid h0
  clear hr hbs h0
  obtain ⟨home, nonce, lease, S, sa, sc, pat, p, q⟩ := c
  unfold cfA
  simp only at HR H0 hm ⊢
  have HC := hid (ObjAt.new w 26 #[.string ⟨home.toArray⟩, .int .i64 nonce, .int .i64 lease, .slice sa S.length sc, .int .i64 pat, .int .i64 p, .int .i64 q])
  have HB := hid (below_new (w := w) (.cells #[.string ⟨home.toArray⟩, .int .i64 nonce, .int .i64 lease, .slice sa S.length sc, .int .i64 pat, .int .i64 p, .int .i64 q] 26))
  go_enter Tryd.func3, Tryd.ntmps3
  go_upto_region 1 with fail
  have HKB : Hid (w.heap.size = w.heap.size) := hid rfl
  generalize hkb : w.heap.size = kb at HC ⊢
  generalize w.alloc (.cells #[.string ⟨home.toArray⟩, .int .i64 nonce, .int .i64 lease, .slice sa S.length sc, .int .i64 pat, .int .i64 p, .int .i64 q] 26) = W0 at *
  clear HKB
  have HKB := hid hkb
  clear hkb
  go_wp2_with (first | (refine wpList_load_row rfl 26 _ rfl kb rfl _ _ (0, 0) _ HC.out Tryd.underlying26 rfl (by kernel_rfl) ?_))
  refine (cl_new ⟨home, nonce, lease, S, sa, sc, pat, p, q⟩ W0 (HR.out.below HB.out) H0.out hm).mono ?_
  rintro e1 w1 ⟨hb1, hc1⟩
  have HB1 := hid (HB.out.trans (hb1.mono HB.out.size))
  have HC1 := hid (HC.out.below hb1)
  have hs1 : w.heap.size ≤ W0.heap.size := HB.out.size
  rcases hc1 with ⟨hrc, cb, hp, sv, rfl, hcl, hh, g1, g2, g3⟩ | ⟨hn, rfl⟩
  rotate_left
  · have HNO := hid hn
    clear hn hb1 HC HB
    go_wp2_with (first | (refine wpList_load_row rfl 26 _ rfl kb rfl _ _ (0, 0) _ HC1.out Tryd.underlying26 rfl (by kernel_rfl) ?_))
    refine (cl_of ⟨home, nonce, lease, S, sa, sc, pat, p, q⟩ w1).mono ?_
    rintro e2 w2 ⟨rfl, hb2⟩
    have HB2 := hid (HB1.out.trans (hb2.mono HB1.out.size))
    clear hb2 HC1
    go_wp2_with fail
    refine (cl_right ⟨home, nonce, lease, S, sa, sc, pat, p, q⟩ w2 (HR.out.below HB2.out) hm).mono ?_
    rintro e3 w3 ⟨⟨b, rfl, hb⟩, hb3⟩
    have HB3 := hid (HB2.out.trans (hb3.mono HB2.out.size))
    obtain rfl : b = false := by
      cases b with
      | false => rfl
      | true => exact absurd (hb.out.1 rfl) HNO.out
    clear hb hb3 HB2 HB1
    go_wp2_with fail
    refine (cl_awake w3).mono ?_
    rintro e4 w4 ⟨rfl, hb4⟩
    have HB4 := hid (HB3.out.trans (hb4.mono HB3.out.size))
    clear hb4 HB3
    go_wp2_with fail
    go_ret
    exact ⟨rfl, HB4.out⟩
  have HRC := hid hrc
  have HCL := hid hcl
  have HG1 := hid g1
  have HG3 := hid g3
  clear hrc hcl hh g1 g2 g3 hb1 HC HB
  by_cases hlen : 200 < bs.length
  · go_wp2_with fail
    refine (cl_awake w1).mono ?_
    rintro e4 w4 ⟨rfl, hb4⟩
    have HB4 := hid (HB1.out.trans (hb4.mono HB1.out.size))
    clear hb4 HB1
    go_wp2_with fail
    go_ret
    exact ⟨rfl, HB4.out⟩
  have hlen2 : bs.length ≤ 200 := by omega
  clear hlen
  obtain ⟨n, hn⟩ : ∃ n : Nat, nonce = (n : Int) := ⟨nonce.toNat, by have h9 : 1 ≤ nonce := HRC.out.2.2.1.1; omega⟩
  obtain ⟨l, hl⟩ : ∃ l : Nat, lease = (l : Int) := ⟨lease.toNat, by have h9 : 1 ≤ lease := HRC.out.2.2.2.1.1; omega⟩
  subst hn
  subst hl
  have hnb : (n : Int) ≤ 1099511627776 := HRC.out.2.2.1.2
  have hlb : (l : Int) ≤ 1048576 := HRC.out.2.2.2.1.2
  have hS1 : 1 ≤ S.length := HRC.out.2.2.2.2.1.1
  have hS8 : S.length ≤ 8 := HRC.out.2.2.2.2.1.2
  have hp1 : 1 ≤ pat := HRC.out.2.2.2.2.2.2.1
  have hp2 : pat ≤ 1048576 := HRC.out.2.2.2.2.2.2.2
  have HLT : Hid (∀ ad, sa = some ad → ad.block < w.heap.size) := hid (HR.out.lt (fun e => by rw [List.map_eq_nil_iff] at e; rw [e] at hS1; exact absurd hS1 (by decide)))
  have hhome : home.length ≤ 32 := (name_len (HRC.out.2.1 : nameOk home = true)).2
  go_upto_region 6 with fail
  go_wp2_with fail
  refine (cl_open cb _ S [] 0 0 n l (by omega) rfl w1 HCL.out rfl rfl (by decide) (by decide) hhome (by show (n : Int) + 8 * 0 = _; omega) (by omega) (by show (0 : Int) ≤ 0; decide) (by show (0 : Int) ≤ 1099511627776; decide) (by show 0 ≤ (n : Int); omega) rfl (by omega) hS8 (by show (0 : Int) ≤ 0; decide) (by show (0 : Int) ≤ 1099511627776; decide)).mono ?_
  rintro e2 w2 ⟨bv, v, rfl, hov, hcl2, hk2⟩
  have HCL2 : Hid (ClAt w2 cb (clW ⟨home, (n : Int), (l : Int), S, sa, sc, pat, p, q⟩ hp n l sv bv 0 false 0) S (openB home n l)) := hid hcl2
  have HK2 := hid hk2
  rw [show (clNew ⟨home, (n : Int), (l : Int), S, sa, sc, pat, p, q⟩ hp sv).seq + 1 = 1 from rfl, show (clNew ⟨home, (n : Int), (l : Int), S, sa, sc, pat, p, q⟩ hp sv).home = home from rfl] at *
  have hvb := owns_bytes hov
  have hvl := fun g hg => (own_lt hov g hg).1
  obtain ⟨va, vc, rfl, -, -⟩ := owns_row hov
  have HVB := hid hvb
  have HVL := hid hvl
  clear hov hcl2 hk2 hvb hvl
  generalize hx0 : S.getD 0 0 = x0 at *
  have HX0 := hid hx0
  clear hx0
  have HC2 := hid (HC1.out.keptS HK2.out (fun e => HC1.out.ne_obj HCL.out.obj (by decide) e))
  have HB2 : Hid (Below w.heap.size w w2) := hid (HB1.out.trans (HK2.out.below (fun j hj => by rw [hj]; exact Nat.le_trans hs1 HG1.out) HB1.out.size))
  generalize hLL : (openB home n l).length = LL at *
  have HLL := hid hLL
  have HL1000 : Hid (LL ≤ 1000) := hid (by
    have h1 := (oS_len ⟨home.toArray⟩ (n : Int) (l : Int) (by show home.toArray.size ≤ 32; simpa using hhome)).2.2.2.2.2
    rw [oS6_is _ _ _ (by omega) (by omega), show (⟨home.toArray⟩ : ByteArray).data.toList = home from rfl, hLL] at h1
    omega)
  clear hLL
  have HSN := hid (ObjAt.new w2 39 #[.int .i64 x0, .int .i64 1, .slice va LL vc])
  have HBS2 := hid (below_new (w := w2) (.cells #[.int .i64 x0, .int .i64 1, .slice va LL vc] 39))
  have HTW : Hid (TurnW w (w2.alloc (.cells #[.int .i64 x0, .int .i64 1, .slice va LL vc] 39)) ⟨home, (n : Int), (l : Int), S, sa, sc, pat, p, q⟩ n l cb kb w2.heap.size hp sv bv (.slice va LL vc) x0 0 false 0) :=
    hid ⟨HCL2.out.below HBS2.out, HC2.out.below HBS2.out, HSN.out, HVB.out.below HBS2.out, fun g hg e => by have := HVL.out g hg; have := HCL.out.obj.lt; omega, HB2.out.trans (HBS2.out.mono HB2.out.size), Nat.le_trans hs1 HG1.out, HR.out.below (HB2.out.trans (HBS2.out.mono HB2.out.size)), HLT.out⟩
  clear HCL2 HK2 HC2 HB2 HSN HBS2 HVB HVL HCL HC1 HB1 HR HG1 HG3
  go_upto_region 8 with fail
  generalize w2.heap.size = sb at *
  generalize w2.alloc (.cells #[.int .i64 x0, .int .i64 1, .slice va LL vc] 39) = W3 at *
  obtain ⟨sb0, so0, rfl, hc0⟩ := HTW.out.srv.at 0 (by rw [List.length_map]; exact hS1)
  have hc0' : W3.cell? ⟨sb0, so0, none⟩ = some (.int .i64 x0) := by
    rw [show ((S.map (Value.int .i64))[0]'(by rw [List.length_map]; exact hS1)) = Value.int .i64 x0 from by rw [← HX0.out, List.getElem_map, List.getD_eq_getElem?_getD, List.getElem?_eq_getElem (show 0 < S.length from hS1)]; rfl] at hc0
    simpa using hc0
  have s0 := HTW.out.snd.cell 0 (.int .i64 x0) rfl
  have k3 := HTW.out.cfg.cell 3 (.slice (some ⟨sb0, so0, none⟩) S.length sc) rfl
  have hS1' : (0 : Int) < (S.length : Int) := by omega
  clear hc0
  go_quiet (fail)
  have HTW4 := hid (HTW.out.below (below_drewN' nq))
  clear HTW s0 k3 hc0'
  generalize W3.drewN nq = W4 at *
  go_upto_region 10 with fail
  go_wp2_with fail
  go_loopw [7, 59] (fun s i wr => ∃ (j : Nat) (now : Int), s = .int .i64 now ∧ i = .int .i64 j ∧ j ≤ bs.length ∧ 0 ≤ now ∧ now ≤ 1048576 * (j : Int) ∧ Hid (TurnW w wr ⟨home, (n : Int), (l : Int), S, some ⟨sb0, so0, none⟩, sc, pat, p, q⟩ n l cb kb sb hp sv bv (.slice va LL vc) x0 now false (j % S.length))) (fun _ i _ => bs.length - (intOf i).toNat)
  case atStart => exact ⟨0, 0, rfl, rfl, Nat.zero_le _, by decide, by decide, by rw [Nat.zero_mod]; exact HTW4⟩
  case round =>
    clear HTW4
    obtain ⟨j, now, rfl, rfl, hj, hn0, hn1, HTW⟩ := hrel
    by_cases hlt : j < bs.length
    · obtain ⟨bb, ob, rfl, hcj⟩ := (HBS.out.below HTW.out.low).at j (by rw [List.length_map]; exact hlt)
      rw [List.getElem_map] at hcj
      have k4 := HTW.out.cfg.cell 4 (.int .i64 pat) rfl
      have hw1 : IntKind.i64.wrap (now + pat) = now + pat := by rw [IntKind.wrap_i64]; omega
      have hw2 : IntKind.i64.wrap (now + pat - 1) = now + pat - 1 := by rw [IntKind.wrap_i64]; omega
      have hp3 : 0 < S.length := hS1
      have HM : Hid (j % S.length < S.length) := hid (Nat.mod_lt _ hp3)
      go_upto_region 13 with fail
      generalize bs[j] = bj at *
      go_wp2_with fail
      refine (cl_tick_no cb _ S (openB home n l) (now + pat - 1) wr HTW.out.cl rfl (by omega) (by omega) rfl (by show now ≤ _; omega) (by show now + pat - 1 - now < pat; omega) hn0).mono ?_
      rintro e2 w2 ⟨rfl, hb2⟩
      have HTW2 := hid (HTW.out.below hb2)
      have HBE := hid (below_new (w := w2) (.cells #[.int .i64 0, .int .i64 0, .slice none 0 0] 39))
      have HTW3 := hid (HTW2.out.below HBE.out)
      clear hb2 HTW HTW2 HBE k4 hw2 hcj
      go_upto_region 14 with fail
      generalize w2.alloc (.cells #[.int .i64 0, .int .i64 0, .slice none 0 0] 39) = W3 at *
      have k4 := HTW3.out.cfg.cell 4 (.int .i64 pat) rfl
      go_upto_if 80 with fail
      go_cut [7, 14, 15] from 81 to 92 (fun s7 s14 s15 wx => ∃ (now' : Int) (by' : Bool), s7 = .int .i64 now' ∧ now ≤ now' ∧ now' ≤ now + 1048576 ∧ Hid (by' = false → pat ≤ now' - now) ∧ Hid (TurnW w wx ⟨home, (n : Int), (l : Int), S, some ⟨sb0, so0, none⟩, sc, pat, p, q⟩ n l cb kb sb hp sv bv (.slice va LL vc) x0 now by' (j % S.length)))
      case first =>
        cases bj with
        | false =>
          go_wp2_with fail
          go_meet
          case rel => exact ⟨now + pat, false, rfl, by omega, by omega, hid (fun _ => by omega), HTW3⟩
        | true =>
          have s1 := HTW3.out.snd.cell 1 (.int .i64 1) rfl
          go_wp2_with fail
          refine (cl_busy cb _ S (openB home n l) (.slice none 0 0) W3 HTW3.out.cl rfl).mono ?_
          rintro e4 w4 ⟨rfl, hcl4, hk4⟩
          have HTW4 : Hid (TurnW w w4 ⟨home, (n : Int), (l : Int), S, some ⟨sb0, so0, none⟩, sc, pat, p, q⟩ n l cb kb sb hp sv bv (.slice va LL vc) x0 now true (j % S.length)) := hid (HTW3.out.next hk4 hcl4)
          have HZ := hid (ObjAt.new w4 53 #[.int .i64 0, .string ⟨#[]⟩, .int .i64 0, .int .i64 0, .int .i64 0, .int .i64 0, .int .i64 0, .int .i64 0, .slice none 0 0, .string ⟨#[]⟩, .bool false, .int .i64 0, .slice none 0 0, .int .i64 0, .int .i64 0, .slice none 0 0, .int .i64 0, .slice none 0 0, .int .i64 0, .int .i64 0, .int .i64 0, .int .i64 0, .slice none 0 0, .slice none 0 0, .int .i64 0, .slice none 0 0])
          have HTW5 : Hid (TurnW w ((w4.alloc (.cells #[.int .i64 0, .string ⟨#[]⟩, .int .i64 0, .int .i64 0, .int .i64 0, .int .i64 0, .int .i64 0, .int .i64 0, .slice none 0 0, .string ⟨#[]⟩, .bool false, .int .i64 0, .slice none 0 0, .int .i64 0, .int .i64 0, .slice none 0 0, .int .i64 0, .slice none 0 0, .int .i64 0, .int .i64 0, .int .i64 0, .int .i64 0, .slice none 0 0, .slice none 0 0, .int .i64 0, .slice none 0 0] 53)).setRow w4.heap.size R0) ⟨home, (n : Int), (l : Int), S, some ⟨sb0, so0, none⟩, sc, pat, p, q⟩ n l cb kb sb hp sv bv (.slice va LL vc) x0 now true (j % S.length)) := hid (HTW4.out.below (below_setRow (below_new _) (Nat.le_refl _) _))
          clear hcl4 hk4 HTW4 HTW3 s1 k4
          go_wp2_with (first | (refine wpList_store_row rfl 53 _ _ rfl w4.heap.size R0 rfl rfl _ _ HZ.out (by kernel_rfl) rfl (by kernel_rfl) ?_))
          generalize (w4.alloc (.cells #[.int .i64 0, .string ⟨#[]⟩, .int .i64 0, .int .i64 0, .int .i64 0, .int .i64 0, .int .i64 0, .int .i64 0, .slice none 0 0, .string ⟨#[]⟩, .bool false, .int .i64 0, .slice none 0 0, .int .i64 0, .int .i64 0, .slice none 0 0, .int .i64 0, .slice none 0 0, .int .i64 0, .int .i64 0, .int .i64 0, .int .i64 0, .slice none 0 0, .slice none 0 0, .int .i64 0, .slice none 0 0] 53)).setRow w4.heap.size R0 = w5 at *
          clear HZ
          go_meet
          case rel => exact ⟨now, true, rfl, by omega, by omega, hid (fun e => by cases e), HTW5⟩
      case rest =>
        obtain ⟨now', by', rfl, hn2, hn3, HBY, HTW5⟩ := hcut
        clear HTW3 k4 hw1
        generalize hjp : (j % S.length + 1) % S.length = j2
        have HJP := hid hjp
        have hj2 : j2 < S.length := by rw [← hjp]; exact Nat.mod_lt _ hp3
        have hjn : (j + 1) % S.length = j2 := by rw [← hjp, Nat.mod_add_mod]
        have HJN := hid hjn
        go_upto_region 21 with fail
        go_wp2_with fail
        refine (cl_tick cb _ S (openB home n l) now' wc (j % S.length) j2 HTW5.out.cl rfl (by omega) (by omega) hn2 HBY.out hn0 HM.out rfl HJP.out (by rw [HLL.out]; exact HL1000.out) hS8).mono ?_
        rintro e6 w6 ⟨v6, rfl, hov6, hcl6, hk6⟩
        have HTW6 : Hid (TurnW w w6 ⟨home, (n : Int), (l : Int), S, some ⟨sb0, so0, none⟩, sc, pat, p, q⟩ n l cb kb sb hp sv bv (.slice va LL vc) x0 now' false j2) := hid (HTW5.out.next hk6 hcl6)
        have hvb6 := owns_bytes hov6
        obtain ⟨ua, uc, rfl, -, -⟩ := owns_row hov6
        have HV6 := hid hvb6
        clear hov6 hcl6 hk6 hvb6 HTW5 HBY HJP
        rw [HLL.out] at HV6 ⊢
        try rw [show (clW ⟨home, (n : Int), (l : Int), S, some ⟨sb0, so0, none⟩, sc, pat, p, q⟩ hp n l sv bv now by' (j % S.length)).seq = 1 from rfl]
        try rw [show ({ clW ⟨home, (n : Int), (l : Int), S, some ⟨sb0, so0, none⟩, sc, pat, p, q⟩ hp n l sv bv now by' (j % S.length) with pos := (j2 : Int), last := now', busy := false } : Cl).seq = 1 from rfl]
        generalize hx6 : S.getD j2 0 = x6 at *
        have HX6 := hid hx6
        clear hx6 hjp hjn
        have HT6 := hid (ObjAt.new w6 39 #[.int .i64 x6, .int .i64 1, .slice ua LL uc])
        have HBT := hid (below_new (w := w6) (.cells #[.int .i64 x6, .int .i64 1, .slice ua LL uc] 39))
        have HTW7 := hid (HTW6.out.below HBT.out)
        have HV7 := hid (HV6.out.below HBT.out)
        clear HTW6 HV6 HBT
        go_upto_region 22 with fail
        generalize w6.heap.size = tb at *
        generalize w6.alloc (.cells #[.int .i64 x6, .int .i64 1, .slice ua LL uc] 39) = W7 at *
        have hcx := HTW7.out.srv
        obtain ⟨sb1, so1, he1, hcx⟩ := hcx.at j2 (by rw [List.length_map]; exact hj2)
        cases he1
        have hcx' : W7.cell? ⟨sb0, so0 + j2, none⟩ = some (.int .i64 x6) := by
          rw [show ((S.map (Value.int .i64))[j2]'(by rw [List.length_map]; exact hj2)) = Value.int .i64 x6 from by rw [← HX6.out, List.getElem_map, List.getD_eq_getElem?_getD, List.getElem?_eq_getElem hj2]; rfl] at hcx
          exact hcx
        clear hcx
        have t0 := HT6.out.cell 0 (.int .i64 x6) rfl
        have t2 := HT6.out.cell 2 (.slice ua LL uc) rfl
        have s2 := HTW7.out.snd.cell 2 (.slice va LL vc) rfl
        have k3 := HTW7.out.cfg.cell 3 (.slice (some ⟨sb0, so0, none⟩) S.length sc) rfl
        have hj20 : (0 : Int) ≤ (j2 : Int) := Int.natCast_nonneg _
        have hj21 : (j2 : Int) < (S.length : Int) := by omega
        have hmod : Int.tmod ((j : Int) + 1) (S.length : Int) = (j2 : Int) := by
          rw [← HJN.out]; rw [show ((j : Int) + 1) = ((j + 1 : Nat) : Int) from by omega]; exact (Int.ofNat_tmod _ _).symm
        have hne0 : (S.length : Int) ≠ 0 := by omega
        have HSM : Hid (∀ k, Calls Tryd.prog 14 #[.slice ua LL uc, .slice va LL vc] (W7.drewN k) fun e w' => e = .returned (.bool true) ∧ w' = W7.drewN k) := hid (fun k => by
          refine (ref_same _ _ _ _ (W7.drewN k) (HV7.out.below (below_drewN' k)) (HTW7.out.b.below (below_drewN' k))).mono ?_
          rintro e w' ⟨rfl, rfl⟩
          exact ⟨by simp, rfl⟩)
        go_quiet (first | (go_at_call 14; refine Calls.quiet_of_same (HSM.out _)))
        have HTW8 := hid (HTW7.out.below (below_drewN' nq))
        clear HTW7 hcx' t0 t2 s2 k3 HSM HV7 HT6
        generalize W7.drewN nq = W8 at *
        go_wp2_with fail
        go_roundw
        case rel => exact ⟨j + 1, now', rfl, by go_num, by omega, by omega, by push_cast; omega, by rw [HJN.out]; exact HTW8⟩
        case measure => simp [intOf]; omega
    · obtain rfl : j = bs.length := by omega
      clear hlt hj
      go_wp2_with fail
      refine (cl_waits cb _ _ _ wr HTW.out.cl).mono ?_
      rintro e8 w8 ⟨rfl, rfl⟩
      go_wp2_with fail
      refine (cl_awake wr).mono ?_
      rintro e4 w4 ⟨rfl, hb4⟩
      have HB4 := hid (HTW.out.low.trans (hb4.mono HTW.out.low.size))
      clear hb4
      go_wp2_with fail
      go_ret
      exact ⟨rfl, HB4.out⟩
end Go.Proofs.YteiifligdfnifaaDoor
