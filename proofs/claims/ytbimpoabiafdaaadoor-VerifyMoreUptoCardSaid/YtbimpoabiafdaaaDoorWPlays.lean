/- VerifyPlays: the walk -/
import Derived.Test.YtbimpoabiafdaaaDoorFx
import Derived.Test.YtbimpoabiafdaaaDoorAl
namespace Go.Proofs.YtbimpoabiafdaaaDoor
open Go.RowKit Vf
set_option maxRecDepth 100000 in
set_option maxHeartbeats 8000000 in
theorem plays_walk (w : World) (T : TabAt w) (E : Nat → Addr) (hE : Errs w E allErrs) (hg : 25 ≤ w.heap.size) (aa ac an ad ab : Option Addr) (ca cc cn cd cb : Nat) (al : Bool) (P : Prg) (hal : P.all = al)
    (hP : PrgAt w (.slice aa P.avgs.length ca) (.slice ac P.cur.length cc) (.slice an P.nears.length cn) (.slice ad P.drive.length cd) (.slice ab P.code.length cb) P) (hL : Little P 1099511627776) :
    Calls Tryd.prog 3 #[.agg #[.slice aa P.avgs.length ca, .slice ac P.cur.length cc, .slice an P.nears.length cn, .bool al, .slice ad P.drive.length cd, .slice ab P.code.length cb]] w fun e w' => e = .returned (.bool true) ∧ Below w.heap.size w w' := by
  have hq0 := (Below.refl w.heap.size w).alloc (Nat.le_refl _) (.cells #[.slice aa P.avgs.length ca, .slice ac P.cur.length cc, .slice an P.nears.length cn, .bool al, .slice ad P.drive.length cd, .slice ab P.code.length cb] 27)
  have HT := hide T
  have HE := hide hE
  have HL := hide hL
  have HAL := hide hal
  have HP0 := hide (hP.keep hq0)
  have HC0 := hide (heap_new (w := w) rfl (.cells #[.slice aa P.avgs.length ca, .slice ac P.cur.length cc, .slice an P.nears.length cn, .bool al, .slice ad P.drive.length cd, .slice ab P.code.length cb] 27))
  have HB0 := hide hq0
  clear T hE hq0 hP hL hal
  have er := hide fun (k : Nat) (hk : k ∈ allErrs) (w1 : World) (h : Below w.heap.size w w1) => err_below (HE.out.cell k hk) h (ids_lt hg k hk)
  have tb := hide fun (w1 : World) (h : Below w.heap.size w w1) => tab_below HT.out h (by omega : 24 < w.heap.size)
  go_enter Tryd.func3, Tryd.ntmps3
  go_wp2_with fail
  generalize w.alloc (.cells #[.slice aa P.avgs.length ca, .slice ac P.cur.length cc, .slice an P.nears.length cn, .bool al, .slice ad P.drive.length cd, .slice ab P.code.length cb] 27) = w0 at *
  have hs0 := HB0.out.size
  refine (fixed_any w0 (tb.out _ HB0.out) E (HE.out.below HB0.out (Nat.le_refl _) (ids_lt hg)) (by omega)).mono ?_
  rintro e w1 ⟨rfl, hb1⟩
  have HB1 := hide (HB0.out.trans (hb1.mono hs0))
  have hs1 := HB1.out.size
  have HP1 := hide (HP0.out.keep hb1)
  have HC1 := hide (keepTy_below hb1 27 _ _ _ HC0.out)
  clear hb1
  obtain ⟨p0, p1, p2, p3, p4, p5⟩ := cells6 HC1.out
  go_wp2_with fail
  refine (copied_any w1 aa ac an ad ab ca cc cn cd cb al P HP1.out HL.out).mono ?_
  rintro e w2 ⟨va, vc, vn, vd, vb, rfl, ⟨NB, hnew⟩, hb2⟩
  obtain ⟨⟨ia, ja, rfl⟩, ⟨ic, jc, rfl⟩, ⟨in_, jn, rfl⟩, ⟨id_, jd, rfl⟩, ⟨ib, jb, rfl⟩⟩ := hnew.form
  have hq3 := (Below.refl w2.heap.size w2).alloc (Nat.le_refl _) (.cells #[.slice ia P.avgs.length ja, .slice ic P.cur.length jc, .slice in_ P.nears.length jn, .bool al, .slice id_ P.drive.length jd, .slice ib P.code.length jb] 27)
  have hb23 := hb2.trans (hq3.mono hb2.size)
  have HI3 := hide (hnew.at.keep hq3)
  have HP3 := hide (HP1.out.keep hb23)
  have HC3 := hide (keepTy_below hb23 27 _ _ _ HC1.out)
  have HD3 := hide (heap_new (w := w2) rfl (.cells #[.slice ia P.avgs.length ja, .slice ic P.cur.length jc, .slice in_ P.nears.length jn, .bool al, .slice id_ P.drive.length jd, .slice ib P.code.length jb] 27))
  have HB3 := hide (HB1.out.trans (hb23.mono hs1))
  clear hnew hb2 hq3 hb23 p0 p1 p2 p3 p4 p5
  obtain ⟨q0, q1, q2, q3, q4, q5⟩ := cells6 HD3.out
  go_wp2_with fail
  generalize w2.alloc (.cells #[.slice ia P.avgs.length ja, .slice ic P.cur.length jc, .slice in_ P.nears.length jn, .bool al, .slice id_ P.drive.length jd, .slice ib P.code.length jb] 27) = w3 at *
  generalize w2.heap.size = G at *
  have hs3 := HB3.out.size
  refine (check_any w3 (tb.out _ HB3.out) E (er.out 0 (by decide) _ HB3.out) (er.out 1 (by decide) _ HB3.out) (er.out 2 (by decide) _ HB3.out) (by omega) ia ic in_ id_ ib ja jc jn jd jb al P HAL.out HI3.out HL.out).mono ?_
  rintro e w4 ⟨hck, hb4⟩
  cases ha : ans P with
  | none =>
    rw [CkOut, ha] at hck
    subst hck
    have HA := hide ha
    clear ha
    have hq5 := (Below.refl w4.heap.size w4).alloc (Nat.le_refl _) (.cells #[.int .i64 0, .int .i64 0] 31)
    have hb45 := hb4.trans (hq5.mono hb4.size)
    have HI5 := hide (HI3.out.keep hb45)
    have HP5 := hide (HP3.out.keep hb45)
    have HC5 := hide (keepTy_below hb45 27 _ _ _ HC3.out)
    have HD5 := hide (keepTy_below hb45 27 _ _ _ HD3.out)
    have HX5 := hide (heap_new (w := w4) rfl (.cells #[.int .i64 0, .int .i64 0] 31))
    have HB5 := hide (HB3.out.trans (hb45.mono hs3))
    clear hb4 hq5 hb45 q0 q1 q2 q3 q4 q5
    obtain ⟨p0, p1, p2, p3, p4, p5⟩ := cells6 HC5.out
    go_wp2_with fail
    generalize w4.alloc (.cells #[.int .i64 0, .int .i64 0] 31) = w5 at *
    generalize w4.heap.size = X at *
    have hs5 := HB5.out.size
    refine (ref_check_any w5 aa ac an ad ab ca cc cn cd cb al P HAL.out HP5.out HL.out).mono ?_
    rintro e w6 ⟨hck, hb6⟩
    rw [CkOut, HA.out] at hck
    subst hck
    have hq7 := (Below.refl w6.heap.size w6).alloc (Nat.le_refl _) (.cells #[.int .i64 0, .int .i64 0] 31)
    have hb67 := hb6.trans (hq7.mono hb6.size)
    have HI7 := hide (HI5.out.keep hb67)
    have HP7 := hide (HP5.out.keep hb67)
    have HC7 := hide (keepTy_below hb67 27 _ _ _ HC5.out)
    have HD7 := hide (keepTy_below hb67 27 _ _ _ HD5.out)
    have HX7 := hide (keepTy_below hb67 31 _ _ _ HX5.out)
    have HY7 := hide (heap_new (w := w6) rfl (.cells #[.int .i64 0, .int .i64 0] 31))
    have HB7 := hide (HB5.out.trans (hb67.mono hs5))
    clear hb6 hq7 hb67 p0 p1 p2 p3 p4 p5
    obtain ⟨q0, q1, q2, q3, q4, q5⟩ := cells6 HD7.out
    go_wp2_with fail
    generalize w6.alloc (.cells #[.int .i64 0, .int .i64 0] 31) = w7 at *
    generalize w6.heap.size = Y at *
    have hs7 := HB7.out.size
    refine (hts_any w7 (tb.out _ HB7.out) E (er.out 0 (by decide) _ HB7.out) (er.out 1 (by decide) _ HB7.out) (er.out 2 (by decide) _ HB7.out) (by omega) ia ic in_ id_ ib ja jc jn jd jb al P HAL.out HI7.out HL.out).mono ?_
    rintro e w8 ⟨hht, hb8⟩
    rw [HsOut, HA.out] at hht
    subst hht
    have HI8 := hide (HI7.out.keep hb8)
    have HP8 := hide (HP7.out.keep hb8)
    have HC8 := hide (keepTy_below hb8 27 _ _ _ HC7.out)
    have HD8 := hide (keepTy_below hb8 27 _ _ _ HD7.out)
    have HX8 := hide (keepTy_below hb8 31 _ _ _ HX7.out)
    have HY8 := hide (keepTy_below hb8 31 _ _ _ HY7.out)
    have HB8 := hide (HB7.out.trans (hb8.mono hs7))
    have hs8 := HB8.out.size
    clear hb8 q0 q1 q2 q3 q4 q5
    obtain ⟨p0, p1, p2, p3, p4, p5⟩ := cells6 HC8.out
    go_wp2_with fail
    refine (ref_hts_any w8 aa ac an ad ab ca cc cn cd cb al P HAL.out HP8.out HL.out).mono ?_
    rintro e w9 ⟨hht, hb9⟩
    rw [HsOut, HA.out] at hht
    subst hht
    have HI9 := hide (HI8.out.keep hb9)
    have HP9 := hide (HP8.out.keep hb9)
    have HB9 := hide (HB8.out.trans (hb9.mono hs8))
    have hs9 := HB9.out.size
    have hC9 := keepTy_below hb9 27 _ _ _ HC8.out
    have hD9 := keepTy_below hb9 27 _ _ _ HD8.out
    have hX9 := keepTy_below hb9 31 _ _ _ HX8.out
    have hY9 := keepTy_below hb9 31 _ _ _ HY8.out
    obtain ⟨x0, x1⟩ := cells2 hX9
    obtain ⟨y0, y1⟩ := cells2 hY9
    have HC9 := hide hC9
    have HD9 := hide hD9
    clear hb9 p0 p1 p2 p3 p4 p5 hC9 hD9 hX9 hY9
    go_wp2_with fail
    refine (num_code w9 E (HE.out.below HB9.out (Nat.le_refl _) (ids_lt hg))).mono ?_
    rintro e wz ⟨rfl, rfl⟩
    go_wp2_with fail
    refine (num_code w9 E (HE.out.below HB9.out (Nat.le_refl _) (ids_lt hg))).mono ?_
    rintro e wz ⟨rfl, rfl⟩
    obtain ⟨p0, p1, p2, p3, p4, p5⟩ := cells6 HC9.out
    obtain ⟨q0, q1, q2, q3, q4, q5⟩ := cells6 HD9.out
    go_wp2_with fail
    refine (same_ints w9 none none 0 0 0 [] rfl (.inl ⟨rfl, rfl⟩) (.inl ⟨rfl, rfl⟩) (by omega)).mono ?_
    rintro e wz ⟨rfl, n9, rfl⟩
    clear p0 p1 p2 p3 p4 p5 q0 q1 q2 q3 q4 q5 x0 x1 y0 y1
    have HA2 := hide (show Calls Tryd.prog 16 #[.agg #[.slice ia P.avgs.length ja, .slice ic P.cur.length jc, .slice in_ P.nears.length jn, .bool al, .slice id_ P.drive.length jd, .slice ib P.code.length jb], .agg #[.slice aa P.avgs.length ca, .slice ac P.cur.length cc, .slice an P.nears.length cn, .bool al, .slice ad P.drive.length cd, .slice ab P.code.length cb]] (w9.drewN n9) _ from alike_any (w9.drewN n9) ia ic in_ id_ ib aa ac an ad ab ja jc jn jd jb ca cc cn cd cb al P (HI9.out.keep (below_drewN (Below.refl _ _) n9)) (HP9.out.keep (below_drewN (Below.refl _ _) n9)) HL.out)
    have HB10 := hide (below_drewN HB9.out n9)
    obtain ⟨p0, p1, p2, p3, p4, p5⟩ := cells6 (show (w9.drewN n9).heap[_]? = _ from HC9.out)
    obtain ⟨q0, q1, q2, q3, q4, q5⟩ := cells6 (show (w9.drewN n9).heap[_]? = _ from HD9.out)
    generalize w9.drewN n9 = w10 at *
    go_wp2_with fail
    refine HA2.out.mono ?_
    rintro e w11 ⟨rfl, hb11⟩
    go_wp2_with fail
    go_ret
    exact ⟨rfl, HB10.out.trans (hb11.mono HB10.out.size)⟩
  | some H =>
    rw [CkOut, ha] at hck
    subst hck
    have HA := hide ha
    have hHl := (ans_len ha).2.1
    have hHm := (ans_len ha).2.2.1
    have l5 := HL.out.code
    clear ha
    have hq5 := (Below.refl w4.heap.size w4).alloc (Nat.le_refl _) (.cells #[.int .i64 H.length, .int .i64 (mx H : Nat)] 31)
    have hb45 := hb4.trans (hq5.mono hb4.size)
    have HI5 := hide (HI3.out.keep hb45)
    have HP5 := hide (HP3.out.keep hb45)
    have HC5 := hide (keepTy_below hb45 27 _ _ _ HC3.out)
    have HD5 := hide (keepTy_below hb45 27 _ _ _ HD3.out)
    have HX5 := hide (heap_new (w := w4) rfl (.cells #[.int .i64 H.length, .int .i64 (mx H : Nat)] 31))
    have HB5 := hide (HB3.out.trans (hb45.mono hs3))
    clear hb4 hq5 hb45 q0 q1 q2 q3 q4 q5
    obtain ⟨p0, p1, p2, p3, p4, p5⟩ := cells6 HC5.out
    go_wp2_with fail
    generalize w4.alloc (.cells #[.int .i64 H.length, .int .i64 (mx H : Nat)] 31) = w5 at *
    generalize w4.heap.size = X at *
    have hs5 := HB5.out.size
    refine (ref_check_any w5 aa ac an ad ab ca cc cn cd cb al P HAL.out HP5.out HL.out).mono ?_
    rintro e w6 ⟨hck, hb6⟩
    rw [CkOut, HA.out] at hck
    subst hck
    have hq7 := (Below.refl w6.heap.size w6).alloc (Nat.le_refl _) (.cells #[.int .i64 H.length, .int .i64 (mx H : Nat)] 31)
    have hb67 := hb6.trans (hq7.mono hb6.size)
    have HI7 := hide (HI5.out.keep hb67)
    have HP7 := hide (HP5.out.keep hb67)
    have HC7 := hide (keepTy_below hb67 27 _ _ _ HC5.out)
    have HD7 := hide (keepTy_below hb67 27 _ _ _ HD5.out)
    have HX7 := hide (keepTy_below hb67 31 _ _ _ HX5.out)
    have HY7 := hide (heap_new (w := w6) rfl (.cells #[.int .i64 H.length, .int .i64 (mx H : Nat)] 31))
    have HB7 := hide (HB5.out.trans (hb67.mono hs5))
    clear hb6 hq7 hb67 p0 p1 p2 p3 p4 p5
    obtain ⟨q0, q1, q2, q3, q4, q5⟩ := cells6 HD7.out
    go_wp2_with fail
    generalize w6.alloc (.cells #[.int .i64 H.length, .int .i64 (mx H : Nat)] 31) = w7 at *
    generalize w6.heap.size = Y at *
    have hs7 := HB7.out.size
    refine (hts_any w7 (tb.out _ HB7.out) E (er.out 0 (by decide) _ HB7.out) (er.out 1 (by decide) _ HB7.out) (er.out 2 (by decide) _ HB7.out) (by omega) ia ic in_ id_ ib ja jc jn jd jb al P HAL.out HI7.out HL.out).mono ?_
    rintro e w8 ⟨hht, hb8⟩
    rw [HsOut, HA.out] at hht
    obtain ⟨g8, hg8, rfl, hrow8⟩ := hht
    have HR8 := hide hrow8
    clear hrow8
    have HI8 := hide (HI7.out.keep hb8)
    have HP8 := hide (HP7.out.keep hb8)
    have HC8 := hide (keepTy_below hb8 27 _ _ _ HC7.out)
    have HD8 := hide (keepTy_below hb8 27 _ _ _ HD7.out)
    have HX8 := hide (keepTy_below hb8 31 _ _ _ HX7.out)
    have HY8 := hide (keepTy_below hb8 31 _ _ _ HY7.out)
    have HB8 := hide (HB7.out.trans (hb8.mono hs7))
    have hs8 := HB8.out.size
    clear hb8 q0 q1 q2 q3 q4 q5
    obtain ⟨p0, p1, p2, p3, p4, p5⟩ := cells6 HC8.out
    go_wp2_with fail
    refine (ref_hts_any w8 aa ac an ad ab ca cc cn cd cb al P HAL.out HP8.out HL.out).mono ?_
    rintro e w9 ⟨hht, hb9⟩
    rw [HsOut, HA.out] at hht
    obtain ⟨g9, hg9, rfl, hrow9⟩ := hht
    have HR9 := hide hrow9
    have HR89 := hide (keepTy_below hb9 3 _ _ _ HR8.out)
    clear hrow9
    have HI9 := hide (HI8.out.keep hb9)
    have HP9 := hide (HP8.out.keep hb9)
    have HB9 := hide (HB8.out.trans (hb9.mono hs8))
    have hs9 := HB9.out.size
    have hC9 := keepTy_below hb9 27 _ _ _ HC8.out
    have hD9 := keepTy_below hb9 27 _ _ _ HD8.out
    have hX9 := keepTy_below hb9 31 _ _ _ HX8.out
    have hY9 := keepTy_below hb9 31 _ _ _ HY8.out
    obtain ⟨x0, x1⟩ := cells2 hX9
    obtain ⟨y0, y1⟩ := cells2 hY9
    have HC9 := hide hC9
    have HD9 := hide hD9
    clear hb9 p0 p1 p2 p3 p4 p5 hC9 hD9 hX9 hY9
    go_wp2_with fail
    refine (num_nil w9).mono ?_
    rintro e wz ⟨rfl, rfl⟩
    go_wp2_with fail
    refine (num_nil w9).mono ?_
    rintro e wz ⟨rfl, rfl⟩
    obtain ⟨p0, p1, p2, p3, p4, p5⟩ := cells6 HC9.out
    obtain ⟨q0, q1, q2, q3, q4, q5⟩ := cells6 HD9.out
    go_wp2_with fail
    refine (same_ints w9 (some ⟨g8, 0, none⟩) (some ⟨g9, 0, none⟩) H.length H.length H.length (H.map Int.ofNat) (by simp) (ints_nats rfl HR89.out (by omega)) (ints_nats rfl HR9.out (by omega)) (by omega)).mono ?_
    rintro e wz ⟨rfl, n9, rfl⟩
    clear p0 p1 p2 p3 p4 p5 q0 q1 q2 q3 q4 q5 x0 x1 y0 y1
    have HA2 := hide (show Calls Tryd.prog 16 #[.agg #[.slice ia P.avgs.length ja, .slice ic P.cur.length jc, .slice in_ P.nears.length jn, .bool al, .slice id_ P.drive.length jd, .slice ib P.code.length jb], .agg #[.slice aa P.avgs.length ca, .slice ac P.cur.length cc, .slice an P.nears.length cn, .bool al, .slice ad P.drive.length cd, .slice ab P.code.length cb]] (w9.drewN n9) _ from alike_any (w9.drewN n9) ia ic in_ id_ ib aa ac an ad ab ja jc jn jd jb ca cc cn cd cb al P (HI9.out.keep (below_drewN (Below.refl _ _) n9)) (HP9.out.keep (below_drewN (Below.refl _ _) n9)) HL.out)
    have HB10 := hide (below_drewN HB9.out n9)
    obtain ⟨p0, p1, p2, p3, p4, p5⟩ := cells6 (show (w9.drewN n9).heap[_]? = _ from HC9.out)
    obtain ⟨q0, q1, q2, q3, q4, q5⟩ := cells6 (show (w9.drewN n9).heap[_]? = _ from HD9.out)
    generalize w9.drewN n9 = w10 at *
    go_wp2_with fail
    refine HA2.out.mono ?_
    rintro e w11 ⟨rfl, hb11⟩
    go_wp2_with fail
    go_ret
    exact ⟨rfl, HB10.out.trans (hb11.mono HB10.out.size)⟩
end Go.Proofs.YtbimpoabiafdaaaDoor
