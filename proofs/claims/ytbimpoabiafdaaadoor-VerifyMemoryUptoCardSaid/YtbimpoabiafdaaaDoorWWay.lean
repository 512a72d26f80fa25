/- VerifyWay: the walk -/
import Derived.Test.YtbimpoabiafdaaaDoorWPlays
import Derived.Test.YtbimpoabiafdaaaDoorSt
namespace Go.Proofs.YtbimpoabiafdaaaDoor
open Go.RowKit Vf
/-- a list of truths -/
def Bools (w : World) (v : Value) (l : List Bool) : Prop :=
  (v = .slice none 0 0 ∧ l = []) ∨ ∃ ad cap, v = .slice (some ad) l.length cap ∧ l.length ≤ cap ∧ cap ≤ 9223372036854775807 ∧ ∀ (k : Nat) (x : Bool), l[k]? = some x → w.cell? (ad.add k) = some (.bool x)
theorem bools_keep {w w' : World} {v : Value} {l : List Bool} (h : Bools w v l) (hb : Below w.heap.size w w') : Bools w' v l := by
  rcases h with h | ⟨ad, cap, h1, h2, h3, h4⟩
  · exact .inl h
  · exact .inr ⟨ad, cap, h1, h2, h3, fun k x hk => lt_keep (h4 k x hk) hb⟩
theorem bools_form {w : World} {v : Value} {l : List Bool} (h : Bools w v l) : ∃ ao cap, v = .slice ao l.length cap := by
  rcases h with ⟨rfl, rfl⟩ | ⟨ad, cap, rfl, _⟩
  · exact ⟨_, _, rfl⟩
  · exact ⟨_, _, rfl⟩
theorem bools_get {w : World} {ao : Option Addr} {n cap : Nat} {l : List Bool} (h : Bools w (.slice ao n cap) l) {i : Nat} {x : Bool} (hx : l[i]? = some x) : ∃ ad, ao = some ad ∧ w.cell? (ad.add i) = some (.bool x) := by
  rcases h with ⟨_, rfl⟩ | ⟨ad, c, hv, _, _, hc⟩
  · simp at hx
  · simp only [Value.slice.injEq] at hv
    exact ⟨ad, hv.1, hc i x hx⟩
set_option maxRecDepth 100000 in
set_option maxHeartbeats 16000000 in
theorem way_walk (w : World) (T : TabAt w) (E : Nat → Addr) (hE : Errs w E allErrs) (hg : 25 ≤ w.heap.size) (aa ac an ad ab : Option Addr) (ca cc cn cd cb : Nat) (al : Bool) (P : Prg) (hal : P.all = al)
    (hP : PrgAt w (.slice aa P.avgs.length ca) (.slice ac P.cur.length cc) (.slice an P.nears.length cn) (.slice ad P.drive.length cd) (.slice ab P.code.length cb) P) (hL : Little P 1099511627776) (at1 : Option Addr) (ct : Nat) (ts : List Bool) (hts : Bools w (.slice at1 ts.length ct) ts) (_hlt : ts.length ≤ 1099511627776) :
    Calls Tryd.prog 6 #[.agg #[.slice aa P.avgs.length ca, .slice ac P.cur.length cc, .slice an P.nears.length cn, .bool al, .slice ad P.drive.length cd, .slice ab P.code.length cb], .slice at1 ts.length ct] w fun e w' => e = .returned (.bool true) ∧ Below w.heap.size w w' := by
  have hq0 := (Below.refl w.heap.size w).alloc (Nat.le_refl _) (.cells #[.slice aa P.avgs.length ca, .slice ac P.cur.length cc, .slice an P.nears.length cn, .bool al, .slice ad P.drive.length cd, .slice ab P.code.length cb] 27)
  have HT := hide T
  have HE := hide hE
  have HL := hide hL
  have HAL := hide hal
  have HTS := hide hts
  have HP0 := hide (hP.keep hq0)
  have HC0 := hide (heap_new (w := w) rfl (.cells #[.slice aa P.avgs.length ca, .slice ac P.cur.length cc, .slice an P.nears.length cn, .bool al, .slice ad P.drive.length cd, .slice ab P.code.length cb] 27))
  have HB0 := hide hq0
  have l1 := hL.avgs
  have l2 := hL.cur
  have l3 := hL.nears
  have l5 := hL.code
  clear T hE hq0 hP hL hal hts
  have er := hide fun (k : Nat) (hk : k ∈ allErrs) (w1 : World) (h : Below w.heap.size w w1) => err_below (HE.out.cell k hk) h (ids_lt hg k hk)
  have tb := hide fun (w1 : World) (h : Below w.heap.size w w1) => tab_below HT.out h (by omega : 24 < w.heap.size)
  go_enter Tryd.func6, Tryd.ntmps6
  go_wp2_with fail
  generalize w.alloc (.cells #[.slice aa P.avgs.length ca, .slice ac P.cur.length cc, .slice an P.nears.length cn, .bool al, .slice ad P.drive.length cd, .slice ab P.code.length cb] 27) = w0 at *
  have hs0 := HB0.out.size
  refine (fixed_any w0 (tb.out _ HB0.out) E (HE.out.below HB0.out (Nat.le_refl _) (ids_lt hg)) (by omega)).mono ?_
  rintro e w1 ⟨rfl, hb1⟩
  have HB1 := hide (HB0.out.trans (hb1.mono hs0))
  have hs1 := HB1.out.size
  have HP1 := hide (HP0.out.keep hb1)
  have HC1 := hide (keepTy_below hb1 27 _ _ _ HC0.out)
  clear hb1
  obtain ⟨p0, p1, p2, p3, p4, p5⟩ := cells6 HC1.out
  go_wp2_with fail
  refine (check_any w1 (tb.out _ HB1.out) E (er.out 0 (by decide) _ HB1.out) (er.out 1 (by decide) _ HB1.out) (er.out 2 (by decide) _ HB1.out) (by omega) aa ac an ad ab ca cc cn cd cb al P HAL.out HP1.out HL.out).mono ?_
  rintro e w2 ⟨hck, hb2⟩
  cases ha : ans P with
  | none =>
    rw [CkOut, ha] at hck
    subst hck
    have hq3 := (Below.refl w2.heap.size w2).alloc (Nat.le_refl _) (.cells #[.int .i64 0, .int .i64 0] 31)
    obtain ⟨x0, x1⟩ := cells2 (heap_new (w := w2) rfl (.cells #[.int .i64 0, .int .i64 0] 31))
    have HB3 := hide (HB1.out.trans ((hb2.trans (hq3.mono hb2.size)).mono hs1))
    clear ha hb2 hq3 p0 p1 p2 p3 p4 p5
    go_wp2_with fail
    go_ret
    exact ⟨rfl, HB3.out⟩
  | some H =>
    obtain ⟨c, hdc, htab, hgood⟩ := ans_is ha
    rw [CkOut, ha] at hck
    subst hck
    have HA := hide ha
    have HD := hide hdc
    have HG := hide hgood
    have hcl := (dc_fit hdc).2
    have HFIT := hide (dc_fit hdc).1
    have HLEN := hide hgood.1
    have hpos := hgood.2.1
    have HH0 := hide hgood.2.2.1
    have hmx := good_mx hgood
    have HLE := hide (good_le hgood)
    have hq3 := (Below.refl w2.heap.size w2).alloc (Nat.le_refl _) (.cells #[.int .i64 H.length, .int .i64 (mx H : Nat)] 31)
    have hb23 := hb2.trans (hq3.mono hb2.size)
    have HP3 := hide (HP1.out.keep hb23)
    have HC3 := hide (keepTy_below hb23 27 _ _ _ HC1.out)
    have HX3 := hide (heap_new (w := w2) rfl (.cells #[.int .i64 H.length, .int .i64 (mx H : Nat)] 31))
    have HB3 := hide (HB1.out.trans (hb23.mono hs1))
    clear ha hdc htab hgood hb2 hq3 hb23 p0 p1 p2 p3 p4 p5
    obtain ⟨p0, p1, p2, p3, p4, p5⟩ := cells6 HC3.out
    go_wp2_with fail
    generalize w2.alloc (.cells #[.int .i64 H.length, .int .i64 (mx H : Nat)] 31) = w3 at *
    generalize w2.heap.size = X at *
    have hs3 := HB3.out.size
    refine (hts_any w3 (tb.out _ HB3.out) E (er.out 0 (by decide) _ HB3.out) (er.out 1 (by decide) _ HB3.out) (er.out 2 (by decide) _ HB3.out) (by omega) aa ac an ad ab ca cc cn cd cb al P HAL.out HP3.out HL.out).mono ?_
    rintro e w4 ⟨hht, hb4⟩
    rw [HsOut, HA.out] at hht
    obtain ⟨g4, hg4, rfl, hrow4⟩ := hht
    have HR4 := hide hrow4
    have HP4 := hide (HP3.out.keep hb4)
    have HC4 := hide (keepTy_below hb4 27 _ _ _ HC3.out)
    have HX4 := hide (keepTy_below hb4 31 _ _ _ HX3.out)
    have HB4 := hide (HB3.out.trans (hb4.mono hs3))
    have hs4 := HB4.out.size
    clear hb4 hrow4 p0 p1 p2 p3 p4 p5
    obtain ⟨p0, p1, p2, p3, p4, p5⟩ := cells6 HC4.out
    go_wp2_with fail
    refine (decode_any w4 (tb.out _ HB4.out) E (er.out 0 (by decide) _ HB4.out) (er.out 1 (by decide) _ HB4.out) (er.out 2 (by decide) _ HB4.out) (by omega) _ P.code HP4.out.code l5).mono ?_
    rintro e w5 ⟨hdo, hb5⟩
    rw [DecOut, HD.out] at hdo
    obtain ⟨vc, rfl, ho⟩ := hdo
    obtain ⟨aco, cco, rfl⟩ := inss_form (inown_inss ho)
    have HI5 := hide (inown_inss ho)
    have HR5 := hide (keepTy_below hb5 3 _ _ _ HR4.out)
    have HC5 := hide (keepTy_below hb5 27 _ _ _ HC4.out)
    have HX5 := hide (keepTy_below hb5 31 _ _ _ HX4.out)
    have HB5 := hide (HB4.out.trans (hb5.mono hs4))
    have HTS5 := hide (bools_keep HTS.out HB5.out)
    have hs5 := HB5.out.size
    obtain ⟨x0, x1⟩ := cells2 HX5.out
    have hcn : ¬ c = [] := fun h => by rw [h] at hpos; simp at hpos
    have hpos0 : ((c.length : Int) == 0) = false := by simp; exact hcn
    clear hb5 ho p0 p1 p2 p3 p4 p5
    rw [HLEN.out] at HX5 x0 ⊢
    go_wp2_with fail
    go_loopw [10, 11, 12, 13] (fun a b t s wr => ∃ i h tn sn : Nat, a = .int .i64 i ∧ b = .int .i64 h ∧ t = .int .i64 tn ∧ s = .int .i64 sn ∧ tn ≤ sn ∧ sn ≤ i ∧ i < c.length ∧ H[i]? = some h ∧ Below w5.heap.size w5 wr) (fun _ _ _ s _ => c.length - (intOf s).toNat)
    case atStart => exact ⟨0, 0, 0, 0, rfl, rfl, rfl, rfl, Nat.le_refl _, Nat.le_refl _, hpos, HH0.out, Below.refl _ _⟩
    case round =>
      obtain ⟨i, h, tn, sn, rfl, rfl, rfl, rfl, htn, hsn, hic, hih, hb⟩ := hrel
      have HIH := hide hih
      have hhi := HLE.out i h hih
      have hhm : h ≤ mx H := mx_le (List.mem_of_getElem? hih)
      have hR := keepTy_below hb 3 _ _ _ HR5.out
      have hXr := keepTy_below hb 31 _ _ _ HX5.out
      have hCr := keepTy_below hb 27 _ _ _ HC5.out
      obtain ⟨x0, x1⟩ := cells2 hXr
      obtain ⟨p0, p1, p2, p3, p4, p5⟩ := cells6 hCr
      have hch : wr.cell? ⟨g4, i, none⟩ = some (.int .i64 (h : Nat)) := by rw [cell_at hR]; exact nats_get hih
      obtain ⟨x, hx⟩ : ∃ x, c[i]? = some x := ⟨_, List.getElem?_eq_getElem hic⟩
      obtain ⟨h', k1, k2, k3, k4, k5⟩ := loc_parts (HG.out.2.2.2 i hic) hx (some_get.2 hih)
      have HK4 := hide (fun hi => some_get.1 (k4 hi))
      have HK5 := hide (fun hj => And.intro (k5 hj).1 (some_get.1 (k5 hj).2))
      have hfx := HFIT.out x (List.mem_of_getElem? hx)
      obtain ⟨adc, rfl, c0, c1, c2⟩ := inss_get (inss_keep HI5.out hb) hx
      obtain ⟨op, A, B⟩ := x
      have hop : op < 17 := hfx.1
      have HFX := hide hfx
      have hOA : A < 18446744073709551616 := hfx.2.1
      simp only at c0 c1 c2 k3
      have hsr := hb.size
      have hq := (Below.refl wr.heap.size wr).alloc (Nat.le_refl _) (.cells #[.int .i64 op, .int .u64 A, .int .u64 B] 56)
      have HB6 := hide (hb.trans (hq.mono hsr))
      have HX6 := hide (heap_new (w := wr) rfl (.cells #[.int .i64 op, .int .u64 A, .int .u64 B] 56))
      have n1 : ¬ (i : Int) < 0 := by omega
      have n2 : ¬ (c.length : Int) ≤ (i : Int) := by omega
      have n3 : ¬ ((mx H : Nat) : Int) < (h : Int) := by omega
      have n4 : (sn : Int) < (c.length : Int) := by omega
      have n5 : (i : Int) < (c.length : Int) := by omega
      have K12 := hide (And.intro k1 k2)
      have K3 := hide k3
      clear k1 k2 k3 k4 k5 hfx hx hih hR hXr hCr hb
      by_cases h0 : op = 0
      · have h0i : ((op : Int) == 0) = true := by simp; omega
        have h0j : ((op : Int) = 0) = True := by simp; omega
        have hh1 : h = 1 := by
          have := K12.out.2
          unfold eff at this
          rw [if_pos h0] at this
          split at this
          · assumption
          · cases this
        have hh1i : ((h : Int) == 1) = true := by simp; omega
        have HBF := hide (HB5.out.trans (HB6.out.mono hs5))
        clear h0 hh1 hq
        go_wp2_with fail
        go_ret
        exact ⟨by simp, HBF.out⟩
      · have h0i : ((op : Int) == 0) = false := by simp; omega
        have h0j : ((op : Int) = 0) = False := by simp; omega
        have hnl : i + 1 < c.length := by
          by_cases e : i + 1 = c.length
          · exact absurd (K3.out.2 e) h0
          · omega
        have HNX := hide (HK4.out hnl)
        have HH' := hide (HLE.out (i + 1) h' (HK4.out hnl))
        have HST := hide (stp_of (x := (op, A, B)) h0 K12.out.1 K12.out.2)
        have HSC := hide (show Calls Tryd.prog 21 #[.agg #[.slice aa P.avgs.length ca, .slice ac P.cur.length cc, .slice an P.nears.length cn, .bool al, .slice ad P.drive.length cd, .slice ab P.code.length cb], .agg #[.int .i64 op, .int .u64 A, .int .u64 B], .int .i64 h] (wr.alloc (.cells #[.int .i64 op, .int .u64 A, .int .u64 B] 56)) _ from step_any (wr.alloc (.cells #[.int .i64 op, .int .u64 A, .int .u64 B] 56)) aa ac an ad ab P.avgs.length P.cur.length P.nears.length P.drive.length P.code.length ca cc cn cd cb al l1 l2 l3 (op, A, B) HFX.out h (by omega))
        have hw1 : IntKind.i64.wrap ((i : Int) + 1) = ((i + 1 : Nat) : Int) := by rw [IntKind.wrap_i64]; omega
        have hw2 : IntKind.i64.wrap ((tn : Int) + 1) = ((tn + 1 : Nat) : Int) := by rw [IntKind.wrap_i64]; omega
        have hw3 : IntKind.i64.wrap ((sn : Int) + 1) = ((sn + 1 : Nat) : Int) := by rw [IntKind.wrap_i64]; omega
        have HC6 := hide (keepTy_below HB6.out 27 _ _ _ HC5.out)
        clear h0 hq
        go_upto_region 17 with (fail)
        clear c0 c1 c2 x0 x1 p0 p1 p2 p3 p4 p5 hch
        generalize wr.alloc (.cells #[.int .i64 op, .int .u64 A, .int .u64 B] 56) = w6 at *
        generalize wr.heap.size = Z at *
        obtain ⟨p0, p1, p2, p3, p4, p5⟩ := cells6 HC6.out
        obtain ⟨y0, y1, y2⟩ := cells3 HX6.out
        go_wp2_with fail
        refine HSC.out.mono ?_
        rintro e w7 ⟨⟨z, b, rfl, hz⟩, hb7⟩
        rw [show stp (P.avgs.length, P.cur.length, P.nears.length) (op, A, B) h = some h' from HST.out] at hz
        obtain ⟨rfl, rfl⟩ := hz
        have HB7 := hide (HB6.out.trans (hb7.mono HB6.out.size))
        clear y0 y1 y2
        obtain ⟨y0, y1, y2⟩ := cells3 (keepTy_below hb7 56 _ _ _ HX6.out)
        have HX7 := hide (keepTy_below HB7.out 31 _ _ _ HX5.out)
        clear HSC hb7 p0 p1 p2 p3 p4 p5
        by_cases hj : op = 15 ∨ op = 16
        · have HJ := hide hj
          have hjj := HK5.out hj
          have hfar : i + 1 + A < c.length := hjj.1
          have HJH := hide hjj.2
          have hul : IntKind.u64.wrap (c.length : Int) = (c.length : Int) := by rw [IntKind.wrap_u64]; omega
          have ha1 : ¬ (c.length : Int) < (A : Int) := by omega
          have hwa : IntKind.i64.wrap (A : Int) = (A : Int) := by rw [IntKind.wrap_i64]; omega
          obtain ⟨q, hq⟩ : ∃ q, i + 1 + A = q := ⟨_, rfl⟩
          have hwb : IntKind.i64.wrap (((i + 1 : Nat) : Int) + A) = (q : Int) := by rw [IntKind.wrap_i64]; omega
          have hwb2 : IntKind.i64.wrap ((i : Int) + 1 + A) = (q : Int) := by rw [IntKind.wrap_i64]; omega
          have HQ := hide hq
          have hqc : q < c.length := by omega
          have hqs : sn + 1 ≤ q := by omega
          clear hq hjj
          by_cases hturn : tn < ts.length
          · obtain ⟨bt, hbt⟩ : ∃ b, ts[tn]? = some b := ⟨_, List.getElem?_eq_getElem hturn⟩
            obtain ⟨adt, rfl, hct⟩ := bools_get (bools_keep HTS5.out HB7.out) hbt
            have ht1 : (tn : Int) < (ts.length : Int) := by omega
            clear hbt
            cases bt with
            | true =>
              rcases hj with h15 | h16
              · have j1 : ((op : Int) == 15) = true := by simp; omega
                have j2 : ((op : Int) = 15) = True := by simp; omega
                clear h15
                go_wp2_with fail
                exact ⟨⟨q, h', tn + 1, sn + 1, rfl, rfl, by simp, by simp, by omega, hqs, hqc, by rw [← HQ.out]; exact HJH.out, HB7.out⟩, by simp [intOf]; omega⟩
              · have j1 : ((op : Int) == 15) = false := by simp; omega
                have j2 : ((op : Int) = 15) = False := by simp; omega
                have j3 : ((op : Int) == 16) = true := by simp; omega
                have j4 : ((op : Int) = 16) = True := by simp; omega
                clear h16
                go_wp2_with fail
                exact ⟨⟨q, h', tn + 1, sn + 1, rfl, rfl, by simp, by simp, by omega, hqs, hqc, by rw [← HQ.out]; exact HJH.out, HB7.out⟩, by simp [intOf]; omega⟩
            | false =>
              rcases hj with h15 | h16
              · have j1 : ((op : Int) == 15) = true := by simp; omega
                have j2 : ((op : Int) = 15) = True := by simp; omega
                clear h15
                go_wp2_with fail
                exact ⟨⟨i + 1, h', tn + 1, sn + 1, by simp, rfl, by simp, by simp, by omega, by omega, hnl, HNX.out, HB7.out⟩, by simp [intOf]; omega⟩
              · have j1 : ((op : Int) == 15) = false := by simp; omega
                have j2 : ((op : Int) = 15) = False := by simp; omega
                have j3 : ((op : Int) == 16) = true := by simp; omega
                have j4 : ((op : Int) = 16) = True := by simp; omega
                clear h16
                go_wp2_with fail
                exact ⟨⟨i + 1, h', tn + 1, sn + 1, by simp, rfl, by simp, by simp, by omega, by omega, hnl, HNX.out, HB7.out⟩, by simp [intOf]; omega⟩
          · have ht1 : ¬ (tn : Int) < (ts.length : Int) := by omega
            rcases hj with h15 | h16
            · have j1 : ((op : Int) == 15) = true := by simp; omega
              have j2 : ((op : Int) = 15) = True := by simp; omega
              clear h15
              go_wp2_with fail
              exact ⟨⟨i + 1, h', tn + 1, sn + 1, by simp, rfl, by simp, by simp, by omega, by omega, hnl, HNX.out, HB7.out⟩, by simp [intOf]; omega⟩
            · have j1 : ((op : Int) == 15) = false := by simp; omega
              have j2 : ((op : Int) = 15) = False := by simp; omega
              have j3 : ((op : Int) == 16) = true := by simp; omega
              have j4 : ((op : Int) = 16) = True := by simp; omega
              clear h16
              go_wp2_with fail
              exact ⟨⟨i + 1, h', tn + 1, sn + 1, by simp, rfl, by simp, by simp, by omega, by omega, hnl, HNX.out, HB7.out⟩, by simp [intOf]; omega⟩
        · have j1 : ((op : Int) == 15) = false := by simp; omega
          have j2 : ((op : Int) = 15) = False := by simp; omega
          have j3 : ((op : Int) == 16) = false := by simp; omega
          have j4 : ((op : Int) = 16) = False := by simp; omega
          clear hj
          go_wp2_with fail
          exact ⟨⟨i + 1, h', tn, sn + 1, rfl, rfl, rfl, by simp, by omega, by omega, hnl, HNX.out, HB7.out⟩, by simp [intOf]; omega⟩
end Go.Proofs.YtbimpoabiafdaaaDoor
