/- VerifySound: the walk -/
import Derived.Test.YtbimpoabiafdaaaDoorWWay
import Derived.Test.YtbimpoabiafdaaaDoorLt
import Derived.Test.YtbimpoabiafdaaaDoorWy
namespace Go.Proofs.YtbimpoabiafdaaaDoor
open Go.RowKit Vf
set_option maxRecDepth 100000 in
set_option maxHeartbeats 16000000 in
theorem sound_walk (w : World) (T : TabAt w) (E : Nat → Addr) (hE : Errs w E allErrs) (hg : 25 ≤ w.heap.size) (aa ac an ad ab : Option Addr) (ca cc cn cd cb : Nat) (al : Bool) (P : Prg) (hal : P.all = al)
    (hP : PrgAt w (.slice aa P.avgs.length ca) (.slice ac P.cur.length cc) (.slice an P.nears.length cn) (.slice ad P.drive.length cd) (.slice ab P.code.length cb) P) (hL : Little P 1099511627776) :
    Calls Tryd.prog 5 #[.agg #[.slice aa P.avgs.length ca, .slice ac P.cur.length cc, .slice an P.nears.length cn, .bool al, .slice ad P.drive.length cd, .slice ab P.code.length cb]] w fun e w' => e = .returned (.bool true) ∧ Below w.heap.size w w' := by
  have hq0 := (Below.refl w.heap.size w).alloc (Nat.le_refl _) (.cells #[.slice aa P.avgs.length ca, .slice ac P.cur.length cc, .slice an P.nears.length cn, .bool al, .slice ad P.drive.length cd, .slice ab P.code.length cb] 27)
  have HT := hide T
  have HE := hide hE
  have HL := hide hL
  have HAL := hide hal
  have HP0 := hide (hP.keep hq0)
  have HC0 := hide (heap_new (w := w) rfl (.cells #[.slice aa P.avgs.length ca, .slice ac P.cur.length cc, .slice an P.nears.length cn, .bool al, .slice ad P.drive.length cd, .slice ab P.code.length cb] 27))
  have HB0 := hide hq0
  have l1 := hL.avgs
  have l2 := hL.cur
  have l3 := hL.nears
  have l5 := hL.code
  clear T hE hq0 hP hL hal
  have er := hide fun (k : Nat) (hk : k ∈ allErrs) (w1 : World) (h : Below w.heap.size w w1) => err_below (HE.out.cell k hk) h (ids_lt hg k hk)
  have tb := hide fun (w1 : World) (h : Below w.heap.size w w1) => tab_below HT.out h (by omega : 24 < w.heap.size)
  go_enter Tryd.func5, Tryd.ntmps5
  go_wp2_with fail
  generalize w.alloc (.cells #[.slice aa P.avgs.length ca, .slice ac P.cur.length cc, .slice an P.nears.length cn, .bool al, .slice ad P.drive.length cd, .slice ab P.code.length cb] 27) = w0 at *
  have hs0 := HB0.out.size
  refine (fixed_any w0 (tb.out _ HB0.out) E (HE.out.below HB0.out (Nat.le_refl _) (ids_lt hg)) (by omega)).mono ?_
  rintro e w1 ⟨rfl, hb1⟩
  have HB1 := hide (HB0.out.trans (hb1.mono hs0))
  have hs1 := HB1.out.size
  have HP1 := hide (HP0.out.keep hb1)
  have HC1 := hide (keepTy_below hb1 27 _ _ _ HC0.out)
  clear hb1
  obtain ⟨p0, p1, p2, p3, p4, p5⟩ := cells6 HC1.out
  go_wp2_with fail
  refine (check_any w1 (tb.out _ HB1.out) E (er.out 0 (by decide) _ HB1.out) (er.out 1 (by decide) _ HB1.out) (er.out 2 (by decide) _ HB1.out) (by omega) aa ac an ad ab ca cc cn cd cb al P HAL.out HP1.out HL.out).mono ?_
  rintro e w2 ⟨hck, hb2⟩
  cases ha : ans P with
  | none =>
    rw [CkOut, ha] at hck
    subst hck
    have HA := hide ha
    have hq3 := (Below.refl w2.heap.size w2).alloc (Nat.le_refl _) (.cells #[.int .i64 0, .int .i64 0] 31)
    have hb23 := hb2.trans (hq3.mono hb2.size)
    have HP3 := hide (HP1.out.keep hb23)
    have HC3 := hide (keepTy_below hb23 27 _ _ _ HC1.out)
    have HX3 := hide (heap_new (w := w2) rfl (.cells #[.int .i64 0, .int .i64 0] 31))
    have HB3 := hide (HB1.out.trans (hb23.mono hs1))
    clear ha hb2 hq3 hb23 p0 p1 p2 p3 p4 p5
    obtain ⟨p0, p1, p2, p3, p4, p5⟩ := cells6 HC3.out
    go_wp2_with fail
    generalize w2.alloc (.cells #[.int .i64 0, .int .i64 0] 31) = w3 at *
    generalize w2.heap.size = X at *
    have hs3 := HB3.out.size
    refine (hts_any w3 (tb.out _ HB3.out) E (er.out 0 (by decide) _ HB3.out) (er.out 1 (by decide) _ HB3.out) (er.out 2 (by decide) _ HB3.out) (by omega) aa ac an ad ab ca cc cn cd cb al P HAL.out HP3.out HL.out).mono ?_
    rintro e w4 ⟨hht, hb4⟩
    rw [HsOut, HA.out] at hht
    subst hht
    have HP4 := hide (HP3.out.keep hb4)
    have HC4 := hide (keepTy_below hb4 27 _ _ _ HC3.out)
    have HX4 := hide (keepTy_below hb4 31 _ _ _ HX3.out)
    have HB4 := hide (HB3.out.trans (hb4.mono hs3))
    have hs4 := HB4.out.size
    clear hb4 p0 p1 p2 p3 p4 p5
    go_wp2_with fail
    go_quiet (fail)
    have hdn := below_drewN (Below.refl w4.heap.size w4) nq
    have HP4d := hide (HP4.out.keep hdn)
    have HC4d := hide (keepTy_below hdn 27 _ _ _ HC4.out)
    have HX4d := hide (keepTy_below hdn 31 _ _ _ HX4.out)
    have HB4d := hide (HB4.out.trans (hdn.mono hs4))
    clear hdn hs4 HB4 HP4 HC4 HX4
    generalize w4.drewN nq = w4d at *
    have HP4 := HP4d
    have HC4 := HC4d
    have HX4 := HX4d
    have HB4 := HB4d
    have hs4 := HB4.out.size
    obtain ⟨p0, p1, p2, p3, p4, p5⟩ := cells6 HC4.out
    go_wp2_with fail
    refine (decode_any w4d (tb.out _ HB4.out) E (er.out 0 (by decide) _ HB4.out) (er.out 1 (by decide) _ HB4.out) (er.out 2 (by decide) _ HB4.out) (by omega) _ P.code HP4.out.code l5).mono ?_
    rintro e w5 ⟨hdo, hb5⟩
    have HP5 := hide (HP4.out.keep hb5)
    have HC5 := hide (keepTy_below hb5 27 _ _ _ HC4.out)
    have HX5 := hide (keepTy_below hb5 31 _ _ _ HX4.out)
    have HB5 := hide (HB4.out.trans (hb5.mono hs4))
    have hs5 := HB5.out.size
    obtain ⟨x0, x1⟩ := cells2 HX5.out
    cases hd : dc P.code with
    | none =>
      rw [DecOut, hd] at hdo
      subst hdo
      clear hd hb5 p0 p1 p2 p3 p4 p5
      go_wp2_with fail
      go_ret
      exact ⟨rfl, HB5.out⟩
    | some c =>
      rw [DecOut, hd] at hdo
      obtain ⟨vc, rfl, ho⟩ := hdo
      obtain ⟨aco, cco, rfl⟩ := inss_form (inown_inss ho)
      have HI5 := hide (inown_inss ho)
      have hcl := (dc_fit hd).2
      have HFIT := hide (dc_fit hd).1
      have HD := hide hd
      have hcc : ¬ (P.code.length : Int) < (c.length : Int) := by omega
      clear hd hb5 ho p0 p1 p2 p3 p4 p5
      obtain ⟨p0, p1, p2, p3, p4, p5⟩ := cells6 HC5.out
      go_wp2_with fail
      refine (law_tables_any w5 aa ac an ad ab ca cc cn cd cb al P HAL.out HP5.out HL.out).mono ?_
      rintro e w6 ⟨⟨bt, rfl, hbt⟩, hb6⟩
      have HC6 := hide (keepTy_below hb6 27 _ _ _ HC5.out)
      have HX6 := hide (keepTy_below hb6 31 _ _ _ HX5.out)
      have HI6 := hide (inss_keep HI5.out hb6)
      have HB6 := hide (HB5.out.trans (hb6.mono hs5))
      have hs6 := HB6.out.size
      have HBT := hide hbt
      clear hbt hb6 p0 p1 p2 p3 p4 p5 x0 x1
      obtain ⟨p0, p1, p2, p3, p4, p5⟩ := cells6 HC6.out
      obtain ⟨x0, x1⟩ := cells2 HX6.out
      cases bt with
      | false =>
        go_wp2_with fail
        go_ret
        exact ⟨rfl, HB6.out⟩
      | true =>
        have HTB := hide (HBT.out.1 rfl)
        go_wp2_with fail
        refine (ways_any w6 aa ac an ad ab ca cc cn cd cb al P l1 l2 l3 c (by omega) HFIT.out aco cco HI6.out).mono ?_
        rintro e w7 ⟨hwo, hb7⟩
        rcases hwo with ⟨H, hH, _⟩ | ⟨_, rfl⟩
        · have := ans_some HD.out HTB.out hH
          rw [HA.out] at this
          cases this
        · have HX7 := hide (keepTy_below hb7 31 _ _ _ HX6.out)
          have HB7 := hide (HB6.out.trans (hb7.mono hs6))
          clear hb7 p0 p1 p2 p3 p4 p5 x0 x1
          obtain ⟨x0, x1⟩ := cells2 HX7.out
          go_wp2_with fail
          go_ret
          exact ⟨rfl, HB7.out⟩
  | some H =>
    obtain ⟨c, hdc, htab, hgood⟩ := ans_is ha
    rw [CkOut, ha] at hck
    subst hck
    have HA := hide ha
    have HD := hide hdc
    have HTB := hide htab
    have HG := hide hgood
    have hcl := (dc_fit hdc).2
    have HFIT := hide (dc_fit hdc).1
    have HLEN := hide hgood.1
    have hpos := hgood.2.1
    have HAL2 := hide (ans_len ha)
    have hHl : H.length ≤ 1099511627776 := by have := (ans_len ha).2.1; omega
    have hHp : 0 < H.length := (ans_len ha).1
    have hHm := (ans_len ha).2.2.1
    have hq3 := (Below.refl w2.heap.size w2).alloc (Nat.le_refl _) (.cells #[.int .i64 H.length, .int .i64 (mx H : Nat)] 31)
    have hb23 := hb2.trans (hq3.mono hb2.size)
    have HP3 := hide (HP1.out.keep hb23)
    have HC3 := hide (keepTy_below hb23 27 _ _ _ HC1.out)
    have HX3 := hide (heap_new (w := w2) rfl (.cells #[.int .i64 H.length, .int .i64 (mx H : Nat)] 31))
    have HB3 := hide (HB1.out.trans (hb23.mono hs1))
    clear ha hdc htab hgood hb2 hq3 hb23 p0 p1 p2 p3 p4 p5
    obtain ⟨p0, p1, p2, p3, p4, p5⟩ := cells6 HC3.out
    go_wp2_with fail
    generalize w2.alloc (.cells #[.int .i64 H.length, .int .i64 (mx H : Nat)] 31) = w3 at *
    generalize w2.heap.size = X at *
    have hs3 := HB3.out.size
    refine (hts_any w3 (tb.out _ HB3.out) E (er.out 0 (by decide) _ HB3.out) (er.out 1 (by decide) _ HB3.out) (er.out 2 (by decide) _ HB3.out) (by omega) aa ac an ad ab ca cc cn cd cb al P HAL.out HP3.out HL.out).mono ?_
    rintro e w4 ⟨hht, hb4⟩
    rw [HsOut, HA.out] at hht
    obtain ⟨g4, hg4, rfl, hrow4⟩ := hht
    have hs4 := hb4.size
    clear p0 p1 p2 p3 p4 p5
    go_wp2_with fail
    go_quiet (fail)
    have hdn := hb4.trans (below_drewN (Below.refl w3.heap.size w4) nq)
    have HR4 := hide (show (w4.drewN nq).heap[g4]? = _ from hrow4)
    have HP4 := hide (HP3.out.keep hdn)
    have HC4 := hide (keepTy_below hdn 27 _ _ _ HC3.out)
    have HX4 := hide (keepTy_below hdn 31 _ _ _ HX3.out)
    have HB4 := hide (HB3.out.trans (hdn.mono hs3))
    clear hdn hs4 hb4 hrow4
    generalize w4.drewN nq = w4d at *
    have hs4 := HB4.out.size
    obtain ⟨p0, p1, p2, p3, p4, p5⟩ := cells6 HC4.out
    go_wp2_with fail
    refine (decode_any w4d (tb.out _ HB4.out) E (er.out 0 (by decide) _ HB4.out) (er.out 1 (by decide) _ HB4.out) (er.out 2 (by decide) _ HB4.out) (by omega) _ P.code HP4.out.code l5).mono ?_
    rintro e w5 ⟨hdo, hb5⟩
    rw [DecOut, HD.out] at hdo
    obtain ⟨vc, rfl, ho⟩ := hdo
    obtain ⟨aco, cco, rfl⟩ := inss_form (inown_inss ho)
    have HI5 := hide (inown_inss ho)
    have HR5 := hide (keepTy_below hb5 3 _ _ _ HR4.out)
    have HP5 := hide (HP4.out.keep hb5)
    have HC5 := hide (keepTy_below hb5 27 _ _ _ HC4.out)
    have HX5 := hide (keepTy_below hb5 31 _ _ _ HX4.out)
    have HB5 := hide (HB4.out.trans (hb5.mono hs4))
    have hs5 := HB5.out.size
    have hcc : ¬ (P.code.length : Int) < (c.length : Int) := by omega
    clear hb5 ho p0 p1 p2 p3 p4 p5
    obtain ⟨p0, p1, p2, p3, p4, p5⟩ := cells6 HC5.out
    go_wp2_with fail
    refine (law_tables_any w5 aa ac an ad ab ca cc cn cd cb al P HAL.out HP5.out HL.out).mono ?_
    rintro e w6 ⟨⟨bt, rfl, hbt⟩, hb6⟩
    obtain rfl : bt = true := hbt.2 HTB.out
    have HC6 := hide (keepTy_below hb6 27 _ _ _ HC5.out)
    have HX6 := hide (keepTy_below hb6 31 _ _ _ HX5.out)
    have HR6 := hide (keepTy_below hb6 3 _ _ _ HR5.out)
    have HI6 := hide (inss_keep HI5.out hb6)
    have HB6 := hide (HB5.out.trans (hb6.mono hs5))
    have hs6 := HB6.out.size
    clear hbt hb6 p0 p1 p2 p3 p4 p5
    obtain ⟨p0, p1, p2, p3, p4, p5⟩ := cells6 HC6.out
    go_wp2_with fail
    refine (ways_any w6 aa ac an ad ab ca cc cn cd cb al P l1 l2 l3 c (by omega) HFIT.out aco cco HI6.out).mono ?_
    rintro e w7 ⟨hwo, hb7⟩
    have hwo2 : ∃ g, e = .returned (.tuple #[.slice (some ⟨g, 0, none⟩) H.length H.length, .bool true]) ∧ w7.heap[g]? = some (.cells (nats H).toArray 3 (0, 0)) := by
      rcases hwo with ⟨K, hK, g, _, e1, e2⟩ | ⟨hn, _⟩
      · obtain rfl := good_unique hK HG.out
        exact ⟨g, e1, e2⟩
      · exact absurd ⟨H, HG.out⟩ hn
    obtain ⟨g7, rfl, hrow7⟩ := hwo2
    have HX7 := hide (keepTy_below hb7 31 _ _ _ HX6.out)
    have HR7 := hide (keepTy_below hb7 3 _ _ _ HR6.out)
    have HQ7 := hide hrow7
    have HB7 := hide (HB6.out.trans (hb7.mono hs6))
    clear hwo hrow7 hb7 p0 p1 p2 p3 p4 p5
    obtain ⟨x0, x1⟩ := cells2 HX7.out
    obtain ⟨n, hn⟩ : ∃ n, H.length = n := ⟨_, rfl⟩
    rw [hn] at x0 hHl hHp hHm ⊢
    have HN := hide hn
    clear hn
    go_wp2_with fail
    go_loopw [11, 101] (fun m k wr => ∃ i d : Nat, m = .int .i64 (mx (H.take i) : Nat) ∧ k = .int .i64 (i : Nat) ∧ i ≤ n ∧ wr = w7.drewN d) (fun _ k _ => n - (intOf k).toNat)
    case atStart => exact ⟨0, 0, rfl, rfl, by omega, rfl⟩
    case round =>
      obtain ⟨i, d, rfl, rfl, hi, rfl⟩ := hrel
      by_cases hlt : i < n
      · obtain ⟨x, hx⟩ : ∃ x, H[i]? = some x := ⟨_, List.getElem?_eq_getElem (by have := HN.out; omega)⟩
        have hc4 : (w7.drewN d).cell? ⟨g4, i, none⟩ = some (.int .i64 (x : Nat)) := by rw [cell_at (show (w7.drewN d).heap[g4]? = _ from HR7.out)]; exact nats_get hx
        have hc7 : (w7.drewN d).cell? ⟨g7, i, none⟩ = some (.int .i64 (x : Nat)) := by rw [cell_at (show (w7.drewN d).heap[g7]? = _ from HQ7.out)]; exact nats_get hx
        have HM := hide (show mx (H.take (i + 1)) = max (mx (H.take i)) x from by rw [List.take_add_one, hx, Option.toList_some, mx_snoc])
        have hi1 : (i : Int) < (n : Int) := by omega
        clear hx
        generalize hwq : w7.drewN d = wq at hc4 hc7 ⊢
        have HWQ := hide hwq
        clear hwq
        generalize mx (H.take i) = m0 at HM ⊢
        go_wp2_with fail
        go_quiet (fail)
        go_wp2_with fail
        exact ⟨⟨i + 1, d + nq, by rw [HM.out]; split <;> (congr 1; omega), by simp, by omega, by rw [← HWQ.out, World.drewN_drewN]⟩, by simp [intOf]; omega⟩
      · obtain rfl : i = n := by omega
        have hmx : mx (H.take i) = mx H := by rw [← HN.out, List.take_length]
        have hc0 : (w7.drewN d).cell? ⟨g4, 0, none⟩ = some (.int .i64 (0 : Nat)) := by rw [cell_at (show (w7.drewN d).heap[g4]? = _ from HR7.out)]; exact nats_get HAL2.out.2.2.2.2.1
        have hc1 : (w7.drewN d).cell? ⟨g4, i - 1, none⟩ = some (.int .i64 (1 : Nat)) := by rw [cell_at (show (w7.drewN d).heap[g4]? = _ from HR7.out)]; exact nats_get (by have := HAL2.out.2.2.2.2.2; rw [HN.out] at this; exact this)
        rw [hmx]
        clear hmx
        go_wp2_with fail
        go_ret
        exact ⟨rfl, below_drewN HB7.out d⟩
end Go.Proofs.YtbimpoabiafdaaaDoor
