/- the walk of DocsetAlgebra -/
import Derived.Test.YtmkbbekeimnajaaDoorAlg
namespace Go.Proofs.YtmkbbekeimnajaaDoor
open Go.RowKit Ds
set_option maxRecDepth 100000 in
set_option maxHeartbeats 16000000 in
theorem algebra_walk (w : World) (T : DeBr w) (E : Nat → Addr) (hE : Errs w E allErrs) (hg : 25 ≤ w.heap.size) (n : Int) (ao1 : Option Addr) (k1 : Nat) (zs : List Int) (h1 : Ints w (.slice ao1 zs.length k1) zs) (hl1 : zs.length ≤ 1152921504606846976)
    (ao2 : Option Addr) (k2 : Nat) (ys : List Int) (h2 : Ints w (.slice ao2 ys.length k2) ys) (hl2 : ys.length ≤ 1152921504606846976) :
    Calls Tryd.prog 5 #[.int .i64 n, .slice ao1 zs.length k1, .slice ao2 ys.length k2] w fun e w' => e = .returned (.bool true) ∧ Below w.heap.size w w' := by
  have HT := hide T
  have HE := hide hE
  have H1 := hide h1
  have H2 := hide h2
  clear T hE h1 h2
  go_enter Tryd.func5, Tryd.ntmps5
  go_wp2_with fail
  refine (fixed_any w E HE.out HT.out hg).mono ?_
  rintro e w1 ⟨rfl, hb1⟩
  have HB1 := hide hb1
  have HZ1 := hide (ints_keep H1.out hb1)
  have z1 := hb1.size
  clear hb1
  go_wp2_with fail
  refine (of_any w1 n ao1 k1 zs HZ1.out hl1 (E 0) (err_below (HE.out.cell 0 (by decide)) HB1.out (by omega)) (by omega)).mono ?_
  rintro e w2 ⟨hof, hb2⟩
  have HB2 := hide (HB1.out.trans (hb2.mono z1))
  have HZ2 := hide (ints_keep H2.out HB2.out)
  have z2 := HB2.out.size
  have z12 := hb2.size
  clear hb2 HZ1
  rcases hof with ⟨N, S1, g1, c1, rfl, hN, hin, rfl, hS1, hg1, hs1⟩ | ⟨hno, rfl⟩
  · have HS1 := hide hs1
    clear hs1 hin
    go_wp2_with fail
    refine (of_any w2 N ao2 k2 ys HZ2.out hl2 (E 0) (err_below (HE.out.cell 0 (by decide)) HB2.out (by omega)) (by omega)).mono ?_
    rintro e w3 ⟨hof, hb3⟩
    have HB3 := hide (HB2.out.trans (hb3.mono z2))
    have HA := hide (HS1.out.keep hb3)
    clear hb3 HS1 HZ2
    rcases hof with ⟨N2, S2, g2, c2, hNN, hN2, hin, rfl, hS2, hg2, hs2⟩ | ⟨hno, rfl⟩
    · obtain rfl : N2 = N := by omega
      obtain ⟨ms, hms⟩ : ∃ ms, mOf zs = ms := ⟨_, rfl⟩
      obtain ⟨mt, hmt⟩ : ∃ mt, mOf ys = mt := ⟨_, rfl⟩
      rw [hmt] at hs2
      rw [hms] at HA
      have Fs := hide (show SetAt w3 S1 g1 c1 N2 ms from HA.out)
      have Ft := hide (show SetAt w3 S2 g2 c2 N2 mt from hs2)
      have HSO := hide Fs.out.off
      have HTO := hide Ft.out.off
      clear hs2 hin HA hms hmt hNN
      have HBc := hide HB3.out
      clear HB3 HB2 HB1
      go_wp2_with fail
      refine (encode_set w3 Fs.out).mono ?_
      rintro e w4 ⟨qA, _, rfl, hh, hb⟩
      have Fs := hide (Fs.out.keep hb)
      have Ft := hide (Ft.out.keep hb)
      have HBc := hide (HBc.out.trans (hb.mono HBc.out.size))
      have RA := hide (src_encS hN hh)
      clear hh hb
      go_wp2_with fail
      refine (encode_set w4 Ft.out).mono ?_
      rintro e w5 ⟨qB, _, rfl, hh, hb⟩
      have Fs := hide (Fs.out.keep hb)
      have Ft := hide (Ft.out.keep hb)
      have RA := hide (src_keep RA.out hb)
      have HBc := hide (HBc.out.trans (hb.mono HBc.out.size))
      have RB := hide (src_encS hN hh)
      clear hh hb
      go_wp2_with fail
      refine (not_any w5 Fs.out).mono ?_
      rintro e w6 ⟨Xns, yns, rfl, _, _, hs, hb⟩
      have Fs := hide (Fs.out.keep hb)
      have Ft := hide (Ft.out.keep hb)
      have RA := hide (src_keep RA.out hb)
      have RB := hide (src_keep RB.out hb)
      have HBc := hide (HBc.out.trans (hb.mono HBc.out.size))
      have Fns := hide (show SetAt w6 Xns yns (nw N2) N2 (neg (ms) N2) from hs)
      clear hs hb
      go_wp2_with fail
      refine (not_any w6 Ft.out).mono ?_
      rintro e w7 ⟨Xnt, ynt, rfl, _, _, hs, hb⟩
      have Fs := hide (Fs.out.keep hb)
      have Ft := hide (Ft.out.keep hb)
      have Fns := hide (Fns.out.keep hb)
      have RA := hide (src_keep RA.out hb)
      have RB := hide (src_keep RB.out hb)
      have HBc := hide (HBc.out.trans (hb.mono HBc.out.size))
      have Fnt := hide (show SetAt w7 Xnt ynt (nw N2) N2 (neg (mt) N2) from hs)
      clear hs hb
      go_wp2_with fail
      refine (joined_1 w7 Fs.out Ft.out).mono ?_
      rintro e w8 ⟨Xand, yand, rfl, _, _, hs, hb⟩
      have Fs := hide (Fs.out.keep hb)
      have Ft := hide (Ft.out.keep hb)
      have Fns := hide (Fns.out.keep hb)
      have Fnt := hide (Fnt.out.keep hb)
      have RA := hide (src_keep RA.out hb)
      have RB := hide (src_keep RB.out hb)
      have HBc := hide (HBc.out.trans (hb.mono HBc.out.size))
      have Fand := hide (show SetAt w8 Xand yand (nw N2) N2 (mAnd (ms) (mt)) from hs)
      clear hs hb
      go_wp2_with fail
      refine (joined_2 w8 Fs.out Ft.out).mono ?_
      rintro e w9 ⟨Xor, yor, rfl, _, _, hs, hb⟩
      have Fs := hide (Fs.out.keep hb)
      have Ft := hide (Ft.out.keep hb)
      have Fns := hide (Fns.out.keep hb)
      have Fnt := hide (Fnt.out.keep hb)
      have Fand := hide (Fand.out.keep hb)
      have RA := hide (src_keep RA.out hb)
      have RB := hide (src_keep RB.out hb)
      have HBc := hide (HBc.out.trans (hb.mono HBc.out.size))
      have For := hide (show SetAt w9 Xor yor (nw N2) N2 (mOr (ms) (mt)) from hs)
      clear hs hb
      go_wp2_with fail
      refine (joined_3 w9 Fs.out Ft.out).mono ?_
      rintro e w10 ⟨Xmi, ymi, rfl, _, _, hs, hb⟩
      have Fs := hide (Fs.out.keep hb)
      have Ft := hide (Ft.out.keep hb)
      have Fns := hide (Fns.out.keep hb)
      have Fnt := hide (Fnt.out.keep hb)
      have Fand := hide (Fand.out.keep hb)
      have For := hide (For.out.keep hb)
      have RA := hide (src_keep RA.out hb)
      have RB := hide (src_keep RB.out hb)
      have HBc := hide (HBc.out.trans (hb.mono HBc.out.size))
      have Fmi := hide (show SetAt w10 Xmi ymi (nw N2) N2 (mMinus (ms) (mt)) from hs)
      clear hs hb
      go_wp2_with fail
      refine (not_any w10 Fns.out).mono ?_
      rintro e w11 ⟨Xx, yx, rfl, _, _, hs, hb⟩
      have Fs := hide (Fs.out.keep hb)
      have Ft := hide (Ft.out.keep hb)
      have Fns := hide (Fns.out.keep hb)
      have Fnt := hide (Fnt.out.keep hb)
      have Fand := hide (Fand.out.keep hb)
      have For := hide (For.out.keep hb)
      have Fmi := hide (Fmi.out.keep hb)
      have RA := hide (src_keep RA.out hb)
      have RB := hide (src_keep RB.out hb)
      have HBc := hide (HBc.out.trans (hb.mono HBc.out.size))
      have Fx := hide (show SetAt w11 Xx yx (nw N2) N2 (neg (neg (ms) N2) N2) from hs)
      clear hs hb
      go_wp2_with fail
      refine (alike_eq w11 Fx.out Fs.out (alg_nn HSO.out)).mono ?_
      rintro e w12 ⟨rfl, hb⟩
      have Fs := hide (Fs.out.keep hb)
      have Ft := hide (Ft.out.keep hb)
      have Fns := hide (Fns.out.keep hb)
      have Fnt := hide (Fnt.out.keep hb)
      have Fand := hide (Fand.out.keep hb)
      have For := hide (For.out.keep hb)
      have Fmi := hide (Fmi.out.keep hb)
      have Fx := hide (Fx.out.keep hb)
      have RA := hide (src_keep RA.out hb)
      have RB := hide (src_keep RB.out hb)
      have HBc := hide (HBc.out.trans (hb.mono HBc.out.size))
      clear hb
      clear Fx
      go_wp2_with fail
      refine (not_any w12 Fand.out).mono ?_
      rintro e w13 ⟨Xx, yx, rfl, _, _, hs, hb⟩
      have Fs := hide (Fs.out.keep hb)
      have Ft := hide (Ft.out.keep hb)
      have Fns := hide (Fns.out.keep hb)
      have Fnt := hide (Fnt.out.keep hb)
      have Fand := hide (Fand.out.keep hb)
      have For := hide (For.out.keep hb)
      have Fmi := hide (Fmi.out.keep hb)
      have RA := hide (src_keep RA.out hb)
      have RB := hide (src_keep RB.out hb)
      have HBc := hide (HBc.out.trans (hb.mono HBc.out.size))
      have Fx := hide (show SetAt w13 Xx yx (nw N2) N2 (neg (mAnd (ms) (mt)) N2) from hs)
      clear hs hb
      go_wp2_with fail
      refine (joined_2 w13 Fns.out Fnt.out).mono ?_
      rintro e w14 ⟨Xy, yy, rfl, _, _, hs, hb⟩
      have Fs := hide (Fs.out.keep hb)
      have Ft := hide (Ft.out.keep hb)
      have Fns := hide (Fns.out.keep hb)
      have Fnt := hide (Fnt.out.keep hb)
      have Fand := hide (Fand.out.keep hb)
      have For := hide (For.out.keep hb)
      have Fmi := hide (Fmi.out.keep hb)
      have Fx := hide (Fx.out.keep hb)
      have RA := hide (src_keep RA.out hb)
      have RB := hide (src_keep RB.out hb)
      have HBc := hide (HBc.out.trans (hb.mono HBc.out.size))
      have Fy := hide (show SetAt w14 Xy yy (nw N2) N2 (mOr (neg (ms) N2) (neg (mt) N2)) from hs)
      clear hs hb
      go_wp2_with fail
      refine (alike_eq w14 Fx.out Fy.out (alg_and)).mono ?_
      rintro e w15 ⟨rfl, hb⟩
      have Fs := hide (Fs.out.keep hb)
      have Ft := hide (Ft.out.keep hb)
      have Fns := hide (Fns.out.keep hb)
      have Fnt := hide (Fnt.out.keep hb)
      have Fand := hide (Fand.out.keep hb)
      have For := hide (For.out.keep hb)
      have Fmi := hide (Fmi.out.keep hb)
      have Fx := hide (Fx.out.keep hb)
      have Fy := hide (Fy.out.keep hb)
      have RA := hide (src_keep RA.out hb)
      have RB := hide (src_keep RB.out hb)
      have HBc := hide (HBc.out.trans (hb.mono HBc.out.size))
      clear hb
      clear Fx
      clear Fy
      go_wp2_with fail
      refine (not_any w15 For.out).mono ?_
      rintro e w16 ⟨Xx, yx, rfl, _, _, hs, hb⟩
      have Fs := hide (Fs.out.keep hb)
      have Ft := hide (Ft.out.keep hb)
      have Fns := hide (Fns.out.keep hb)
      have Fnt := hide (Fnt.out.keep hb)
      have Fand := hide (Fand.out.keep hb)
      have For := hide (For.out.keep hb)
      have Fmi := hide (Fmi.out.keep hb)
      have RA := hide (src_keep RA.out hb)
      have RB := hide (src_keep RB.out hb)
      have HBc := hide (HBc.out.trans (hb.mono HBc.out.size))
      have Fx := hide (show SetAt w16 Xx yx (nw N2) N2 (neg (mOr (ms) (mt)) N2) from hs)
      clear hs hb
      go_wp2_with fail
      refine (joined_1 w16 Fns.out Fnt.out).mono ?_
      rintro e w17 ⟨Xy, yy, rfl, _, _, hs, hb⟩
      have Fs := hide (Fs.out.keep hb)
      have Ft := hide (Ft.out.keep hb)
      have Fns := hide (Fns.out.keep hb)
      have Fnt := hide (Fnt.out.keep hb)
      have Fand := hide (Fand.out.keep hb)
      have For := hide (For.out.keep hb)
      have Fmi := hide (Fmi.out.keep hb)
      have Fx := hide (Fx.out.keep hb)
      have RA := hide (src_keep RA.out hb)
      have RB := hide (src_keep RB.out hb)
      have HBc := hide (HBc.out.trans (hb.mono HBc.out.size))
      have Fy := hide (show SetAt w17 Xy yy (nw N2) N2 (mAnd (neg (ms) N2) (neg (mt) N2)) from hs)
      clear hs hb
      go_wp2_with fail
      refine (alike_eq w17 Fx.out Fy.out (alg_or)).mono ?_
      rintro e w18 ⟨rfl, hb⟩
      have Fs := hide (Fs.out.keep hb)
      have Ft := hide (Ft.out.keep hb)
      have Fns := hide (Fns.out.keep hb)
      have Fnt := hide (Fnt.out.keep hb)
      have Fand := hide (Fand.out.keep hb)
      have For := hide (For.out.keep hb)
      have Fmi := hide (Fmi.out.keep hb)
      have Fx := hide (Fx.out.keep hb)
      have Fy := hide (Fy.out.keep hb)
      have RA := hide (src_keep RA.out hb)
      have RB := hide (src_keep RB.out hb)
      have HBc := hide (HBc.out.trans (hb.mono HBc.out.size))
      clear hb
      clear Fx
      clear Fy
      go_wp2_with fail
      refine (joined_1 w18 Fs.out Fnt.out).mono ?_
      rintro e w19 ⟨Xy, yy, rfl, _, _, hs, hb⟩
      have Fs := hide (Fs.out.keep hb)
      have Ft := hide (Ft.out.keep hb)
      have Fns := hide (Fns.out.keep hb)
      have Fnt := hide (Fnt.out.keep hb)
      have Fand := hide (Fand.out.keep hb)
      have For := hide (For.out.keep hb)
      have Fmi := hide (Fmi.out.keep hb)
      have RA := hide (src_keep RA.out hb)
      have RB := hide (src_keep RB.out hb)
      have HBc := hide (HBc.out.trans (hb.mono HBc.out.size))
      have Fy := hide (show SetAt w19 Xy yy (nw N2) N2 (mAnd (ms) (neg (mt) N2)) from hs)
      clear hs hb
      go_wp2_with fail
      refine (alike_eq w19 Fmi.out Fy.out (alg_minus HSO.out)).mono ?_
      rintro e w20 ⟨rfl, hb⟩
      have Fs := hide (Fs.out.keep hb)
      have Ft := hide (Ft.out.keep hb)
      have Fns := hide (Fns.out.keep hb)
      have Fnt := hide (Fnt.out.keep hb)
      have Fand := hide (Fand.out.keep hb)
      have For := hide (For.out.keep hb)
      have Fmi := hide (Fmi.out.keep hb)
      have Fy := hide (Fy.out.keep hb)
      have RA := hide (src_keep RA.out hb)
      have RB := hide (src_keep RB.out hb)
      have HBc := hide (HBc.out.trans (hb.mono HBc.out.size))
      clear hb
      clear Fy
      go_wp2_with fail
      refine (joined_1 w20 Ft.out Fs.out).mono ?_
      rintro e w21 ⟨Xx, yx, rfl, _, _, hs, hb⟩
      have Fs := hide (Fs.out.keep hb)
      have Ft := hide (Ft.out.keep hb)
      have Fns := hide (Fns.out.keep hb)
      have Fnt := hide (Fnt.out.keep hb)
      have Fand := hide (Fand.out.keep hb)
      have For := hide (For.out.keep hb)
      have Fmi := hide (Fmi.out.keep hb)
      have RA := hide (src_keep RA.out hb)
      have RB := hide (src_keep RB.out hb)
      have HBc := hide (HBc.out.trans (hb.mono HBc.out.size))
      have Fx := hide (show SetAt w21 Xx yx (nw N2) N2 (mAnd (mt) (ms)) from hs)
      clear hs hb
      go_wp2_with fail
      refine (alike_eq w21 Fx.out Fand.out (alg_andc)).mono ?_
      rintro e w22 ⟨rfl, hb⟩
      have Fs := hide (Fs.out.keep hb)
      have Ft := hide (Ft.out.keep hb)
      have Fns := hide (Fns.out.keep hb)
      have Fnt := hide (Fnt.out.keep hb)
      have Fand := hide (Fand.out.keep hb)
      have For := hide (For.out.keep hb)
      have Fmi := hide (Fmi.out.keep hb)
      have Fx := hide (Fx.out.keep hb)
      have RA := hide (src_keep RA.out hb)
      have RB := hide (src_keep RB.out hb)
      have HBc := hide (HBc.out.trans (hb.mono HBc.out.size))
      clear hb
      clear Fx
      go_wp2_with fail
      refine (joined_2 w22 Ft.out Fs.out).mono ?_
      rintro e w23 ⟨Xx, yx, rfl, _, _, hs, hb⟩
      have Fs := hide (Fs.out.keep hb)
      have Ft := hide (Ft.out.keep hb)
      have Fns := hide (Fns.out.keep hb)
      have Fnt := hide (Fnt.out.keep hb)
      have Fand := hide (Fand.out.keep hb)
      have For := hide (For.out.keep hb)
      have Fmi := hide (Fmi.out.keep hb)
      have RA := hide (src_keep RA.out hb)
      have RB := hide (src_keep RB.out hb)
      have HBc := hide (HBc.out.trans (hb.mono HBc.out.size))
      have Fx := hide (show SetAt w23 Xx yx (nw N2) N2 (mOr (mt) (ms)) from hs)
      clear hs hb
      go_wp2_with fail
      refine (alike_eq w23 Fx.out For.out (alg_orc)).mono ?_
      rintro e w24 ⟨rfl, hb⟩
      have Fs := hide (Fs.out.keep hb)
      have Ft := hide (Ft.out.keep hb)
      have Fns := hide (Fns.out.keep hb)
      have Fnt := hide (Fnt.out.keep hb)
      have Fand := hide (Fand.out.keep hb)
      have For := hide (For.out.keep hb)
      have Fmi := hide (Fmi.out.keep hb)
      have Fx := hide (Fx.out.keep hb)
      have RA := hide (src_keep RA.out hb)
      have RB := hide (src_keep RB.out hb)
      have HBc := hide (HBc.out.trans (hb.mono HBc.out.size))
      clear hb
      clear Fx
      go_wp2_with fail
      refine (joined_2 w24 Fmi.out Fand.out).mono ?_
      rintro e w25 ⟨Xx, yx, rfl, _, _, hs, hb⟩
      have Fs := hide (Fs.out.keep hb)
      have Ft := hide (Ft.out.keep hb)
      have Fns := hide (Fns.out.keep hb)
      have Fnt := hide (Fnt.out.keep hb)
      have Fand := hide (Fand.out.keep hb)
      have For := hide (For.out.keep hb)
      have Fmi := hide (Fmi.out.keep hb)
      have RA := hide (src_keep RA.out hb)
      have RB := hide (src_keep RB.out hb)
      have HBc := hide (HBc.out.trans (hb.mono HBc.out.size))
      have Fx := hide (show SetAt w25 Xx yx (nw N2) N2 (mOr (mMinus (ms) (mt)) (mAnd (ms) (mt))) from hs)
      clear hs hb
      go_wp2_with fail
      refine (alike_eq w25 Fx.out Fs.out (alg_split)).mono ?_
      rintro e w26 ⟨rfl, hb⟩
      have Fs := hide (Fs.out.keep hb)
      have Ft := hide (Ft.out.keep hb)
      have Fns := hide (Fns.out.keep hb)
      have Fnt := hide (Fnt.out.keep hb)
      have Fand := hide (Fand.out.keep hb)
      have For := hide (For.out.keep hb)
      have Fmi := hide (Fmi.out.keep hb)
      have Fx := hide (Fx.out.keep hb)
      have RA := hide (src_keep RA.out hb)
      have RB := hide (src_keep RB.out hb)
      have HBc := hide (HBc.out.trans (hb.mono HBc.out.size))
      clear hb
      clear Fx
      go_wp2_with fail
      refine (joined_1 w26 Fs.out Fs.out).mono ?_
      rintro e w27 ⟨Xx, yx, rfl, _, _, hs, hb⟩
      have Fs := hide (Fs.out.keep hb)
      have Ft := hide (Ft.out.keep hb)
      have Fns := hide (Fns.out.keep hb)
      have Fnt := hide (Fnt.out.keep hb)
      have Fand := hide (Fand.out.keep hb)
      have For := hide (For.out.keep hb)
      have Fmi := hide (Fmi.out.keep hb)
      have RA := hide (src_keep RA.out hb)
      have RB := hide (src_keep RB.out hb)
      have HBc := hide (HBc.out.trans (hb.mono HBc.out.size))
      have Fx := hide (show SetAt w27 Xx yx (nw N2) N2 (mAnd (ms) (ms)) from hs)
      clear hs hb
      go_wp2_with fail
      refine (alike_eq w27 Fx.out Fs.out (alg_self)).mono ?_
      rintro e w28 ⟨rfl, hb⟩
      have Fs := hide (Fs.out.keep hb)
      have Ft := hide (Ft.out.keep hb)
      have Fns := hide (Fns.out.keep hb)
      have Fnt := hide (Fnt.out.keep hb)
      have Fand := hide (Fand.out.keep hb)
      have For := hide (For.out.keep hb)
      have Fmi := hide (Fmi.out.keep hb)
      have Fx := hide (Fx.out.keep hb)
      have RA := hide (src_keep RA.out hb)
      have RB := hide (src_keep RB.out hb)
      have HBc := hide (HBc.out.trans (hb.mono HBc.out.size))
      clear hb
      clear Fx
      obtain ⟨ca, hca⟩ : ∃ ca, cnt (mAnd ms mt) N2 = ca := ⟨_, rfl⟩
      obtain ⟨co, hco⟩ : ∃ co, cnt (mOr ms mt) N2 = co := ⟨_, rfl⟩
      obtain ⟨cs, hcs⟩ : ∃ cs, cnt ms N2 = cs := ⟨_, rfl⟩
      obtain ⟨ct, hct⟩ : ∃ ct, cnt mt N2 = ct := ⟨_, rfl⟩
      obtain ⟨cn, hcn⟩ : ∃ cn, cnt (neg ms N2) N2 = cn := ⟨_, rfl⟩
      have hsum := alg_sum ms mt N2
      rw [hca, hco, hcs, hct] at hsum
      have hneg := cnt_neg ms N2
      have hle := cnt_le ms N2
      have hlt := cnt_le mt N2
      rw [hcn, hcs] at hneg
      rw [hcs] at hle
      rw [hct] at hlt
      have E1 := hide (show (ca : Int) + (co : Int) = (cs : Int) + (ct : Int) by omega)
      have E2 := hide (show (cn : Int) + (cs : Int) = (N2 : Int) by omega)
      have b1 : ca ≤ 3000000 := by omega
      have b2 : co ≤ 3000000 := by omega
      have b3 : cn ≤ 3000000 := by omega
      have Hca := hide hca
      have Hco := hide hco
      have Hcs := hide hcs
      have Hct := hide hct
      have Hcn := hide hcn
      clear hsum hneg hca hco hcs hct hcn
      have e1 := E1.out
      have e2 := E2.out
      have HC := hide (count_any w28 Fand.out)
      rw [Hca.out] at HC
      go_wp2_with fail
      refine HC.out.mono ?_
      rintro e wz ⟨rfl, rfl⟩
      clear HC
      have HC := hide (count_any w28 For.out)
      rw [Hco.out] at HC
      go_wp2_with fail
      refine HC.out.mono ?_
      rintro e wz ⟨rfl, rfl⟩
      clear HC
      have HC := hide (count_any w28 Fs.out)
      rw [Hcs.out] at HC
      go_wp2_with fail
      refine HC.out.mono ?_
      rintro e wz ⟨rfl, rfl⟩
      clear HC
      have HC := hide (count_any w28 Ft.out)
      rw [Hct.out] at HC
      go_wp2_with fail
      refine HC.out.mono ?_
      rintro e wz ⟨rfl, rfl⟩
      clear HC
      have HC := hide (count_any w28 Fns.out)
      rw [Hcn.out] at HC
      go_wp2_with fail
      refine HC.out.mono ?_
      rintro e wz ⟨rfl, rfl⟩
      clear HC
      have HC := hide (count_any w28 Fs.out)
      rw [Hcs.out] at HC
      go_wp2_with fail
      refine HC.out.mono ?_
      rintro e wz ⟨rfl, rfl⟩
      clear HC
      go_wp2_with fail
      refine (joined_1 w28 Fs.out Fns.out).mono ?_
      rintro e w29 ⟨Xx, yx, rfl, _, _, hs, hb⟩
      have Fs := hide (Fs.out.keep hb)
      have Ft := hide (Ft.out.keep hb)
      have Fns := hide (Fns.out.keep hb)
      have Fnt := hide (Fnt.out.keep hb)
      have Fand := hide (Fand.out.keep hb)
      have For := hide (For.out.keep hb)
      have Fmi := hide (Fmi.out.keep hb)
      have RA := hide (src_keep RA.out hb)
      have RB := hide (src_keep RB.out hb)
      have HBc := hide (HBc.out.trans (hb.mono HBc.out.size))
      have Fx := hide (show SetAt w29 Xx yx (nw N2) N2 (mAnd (ms) (neg (ms) N2)) from hs)
      clear hs hb
      go_wp2_with fail
      refine (joined_1 w29 Fs.out Fns.out).mono ?_
      rintro e w30 ⟨Xy, yy, rfl, _, _, hs, hb⟩
      have Fs := hide (Fs.out.keep hb)
      have Ft := hide (Ft.out.keep hb)
      have Fns := hide (Fns.out.keep hb)
      have Fnt := hide (Fnt.out.keep hb)
      have Fand := hide (Fand.out.keep hb)
      have For := hide (For.out.keep hb)
      have Fmi := hide (Fmi.out.keep hb)
      have Fx := hide (Fx.out.keep hb)
      have RA := hide (src_keep RA.out hb)
      have RB := hide (src_keep RB.out hb)
      have HBc := hide (HBc.out.trans (hb.mono HBc.out.size))
      have Fy := hide (show SetAt w30 Xy yy (nw N2) N2 (mAnd (ms) (neg (ms) N2)) from hs)
      clear hs hb
      have HC := hide (count_any w30 Fy.out)
      rw [alg_none] at HC
      go_wp2_with fail
      refine HC.out.mono ?_
      rintro e wz ⟨rfl, rfl⟩
      clear HC
      clear Fx
      clear Fy
      go_wp2_with fail
      refine (encode_set w30 Fs.out).mono ?_
      rintro e w31 ⟨qC, _, rfl, hh, hb⟩
      have Fs := hide (Fs.out.keep hb)
      have Ft := hide (Ft.out.keep hb)
      have Fns := hide (Fns.out.keep hb)
      have Fnt := hide (Fnt.out.keep hb)
      have Fand := hide (Fand.out.keep hb)
      have For := hide (For.out.keep hb)
      have Fmi := hide (Fmi.out.keep hb)
      have RA := hide (src_keep RA.out hb)
      have RB := hide (src_keep RB.out hb)
      have HBc := hide (HBc.out.trans (hb.mono HBc.out.size))
      have RC := hide (src_encS hN hh)
      clear hh hb
      have HQ := hide (bytes_same w31 _ _ _ RC.out RA.out)
      go_wp2_with fail
      refine HQ.out.mono ?_
      rintro e wz ⟨rfl, rfl⟩
      clear HQ
      go_wp2_with fail
      refine (encode_set w31 Ft.out).mono ?_
      rintro e w32 ⟨qD, _, rfl, hh, hb⟩
      have Fs := hide (Fs.out.keep hb)
      have Ft := hide (Ft.out.keep hb)
      have Fns := hide (Fns.out.keep hb)
      have Fnt := hide (Fnt.out.keep hb)
      have Fand := hide (Fand.out.keep hb)
      have For := hide (For.out.keep hb)
      have Fmi := hide (Fmi.out.keep hb)
      have RA := hide (src_keep RA.out hb)
      have RB := hide (src_keep RB.out hb)
      have RC := hide (src_keep RC.out hb)
      have HBc := hide (HBc.out.trans (hb.mono HBc.out.size))
      have RD := hide (src_encS hN hh)
      clear hh hb
      have HQ := hide (bytes_same w32 _ _ _ RD.out RB.out)
      go_wp2_with fail
      refine HQ.out.mono ?_
      rintro e wz ⟨rfl, rfl⟩
      clear HQ
      go_wp2_with fail
      go_ret
      exact ⟨rfl, HBc.out⟩
    · go_wp2_with fail
      go_ret
      exact ⟨rfl, HB3.out⟩
  · go_wp2_with fail
    refine (of_any w2 n ao2 k2 ys HZ2.out hl2 (E 0) (err_below (HE.out.cell 0 (by decide)) HB2.out (by omega)) (by omega)).mono ?_
    rintro e w3 ⟨hof, hb3⟩
    have HB3 := hide (HB2.out.trans (hb3.mono z2))
    clear hb3 hno
    rcases hof with ⟨N2, S2, g2, c2, rfl, hN2, hin, rfl, hS2, hg2, hs2⟩ | ⟨hno, rfl⟩
    · clear hin hs2
      go_wp2_with fail
      go_ret
      exact ⟨rfl, HB3.out⟩
    · clear hno
      go_wp2_with fail
      go_ret
      exact ⟨rfl, HB3.out⟩
end Go.Proofs.YtmkbbekeimnajaaDoor
