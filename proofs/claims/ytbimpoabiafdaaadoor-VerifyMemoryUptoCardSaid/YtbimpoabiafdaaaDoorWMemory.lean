/- VerifyMemory: the walk -/
import Derived.Test.YtbimpoabiafdaaaDoorWWay
import Derived.Test.YtbimpoabiafdaaaDoorMm
namespace Go.Proofs.YtbimpoabiafdaaaDoor
open Go.RowKit Vf
set_option maxRecDepth 100000 in
set_option maxHeartbeats 16000000 in
theorem memory_walk (w : World) (T : TabAt w) (E : Nat → Addr) (hE : Errs w E allErrs) (hg : 25 ≤ w.heap.size) (aa ac an ad ab : Option Addr) (ca cc cn cd cb : Nat) (al : Bool) (P : Prg) (hal : P.all = al)
    (hP : PrgAt w (.slice aa P.avgs.length ca) (.slice ac P.cur.length cc) (.slice an P.nears.length cn) (.slice ad P.drive.length cd) (.slice ab P.code.length cb) P) (hL : Little P 1099511627776)
    (ba bc bn bd bb : Option Addr) (da dc dn dd db : Nat) (bl : Bool) (R : Prg) (_hbl : R.all = bl) (hR : PrgAt w (.slice ba R.avgs.length da) (.slice bc R.cur.length dc) (.slice bn R.nears.length dn) (.slice bd R.drive.length dd) (.slice bb R.code.length db) R) (hLR : Little R 1099511627776) :
    Calls Tryd.prog 4 #[.agg #[.slice aa P.avgs.length ca, .slice ac P.cur.length cc, .slice an P.nears.length cn, .bool al, .slice ad P.drive.length cd, .slice ab P.code.length cb], .agg #[.slice ba R.avgs.length da, .slice bc R.cur.length dc, .slice bn R.nears.length dn, .bool bl, .slice bd R.drive.length dd, .slice bb R.code.length db]] w fun e w' => e = .returned (.bool true) ∧ Below w.heap.size w w' := by
  have hq0 := ((Below.refl w.heap.size w).alloc (Nat.le_refl _) (.cells #[.slice aa P.avgs.length ca, .slice ac P.cur.length cc, .slice an P.nears.length cn, .bool al, .slice ad P.drive.length cd, .slice ab P.code.length cb] 27)).alloc (by simp) (.cells #[.slice ba R.avgs.length da, .slice bc R.cur.length dc, .slice bn R.nears.length dn, .bool bl, .slice bd R.drive.length dd, .slice bb R.code.length db] 27)
  have HT := hide T
  have HE := hide hE
  have HL := hide hL
  have HAL := hide hal
  have HP0 := hide (hP.keep hq0)
  have HS0 := hide (src_keep hR.code hq0)
  have HC0 := hide (heap_old (heap_new (w := w) rfl (.cells #[.slice aa P.avgs.length ca, .slice ac P.cur.length cc, .slice an P.nears.length cn, .bool al, .slice ad P.drive.length cd, .slice ab P.code.length cb] 27)) (.cells #[.slice ba R.avgs.length da, .slice bc R.cur.length dc, .slice bn R.nears.length dn, .bool bl, .slice bd R.drive.length dd, .slice bb R.code.length db] 27))
  have HD0 := hide (heap_new (w := w.alloc (.cells #[.slice aa P.avgs.length ca, .slice ac P.cur.length cc, .slice an P.nears.length cn, .bool al, .slice ad P.drive.length cd, .slice ab P.code.length cb] 27)) (g := w.heap.size + 1) (by simp) (.cells #[.slice ba R.avgs.length da, .slice bc R.cur.length dc, .slice bn R.nears.length dn, .bool bl, .slice bd R.drive.length dd, .slice bb R.code.length db] 27))
  have HB0 := hide hq0
  have l1 := hL.avgs
  have l2 := hL.cur
  have l3 := hL.nears
  have l4 := hL.drive
  have l5 := hL.code
  have lr5 := hLR.code
  clear T hE hq0 hP hL hal hR hLR
  have er := hide fun (k : Nat) (hk : k ∈ allErrs) (w1 : World) (h : Below w.heap.size w w1) => err_below (HE.out.cell k hk) h (ids_lt hg k hk)
  have tb := hide fun (w1 : World) (h : Below w.heap.size w w1) => tab_below HT.out h (by omega : 24 < w.heap.size)
  go_enter Tryd.func4, Tryd.ntmps4
  go_wp2_with fail
  generalize (w.alloc (.cells #[.slice aa P.avgs.length ca, .slice ac P.cur.length cc, .slice an P.nears.length cn, .bool al, .slice ad P.drive.length cd, .slice ab P.code.length cb] 27)).alloc (.cells #[.slice ba R.avgs.length da, .slice bc R.cur.length dc, .slice bn R.nears.length dn, .bool bl, .slice bd R.drive.length dd, .slice bb R.code.length db] 27) = w0 at *
  have hs0 := HB0.out.size
  refine (fixed_any w0 (tb.out _ HB0.out) E (HE.out.below HB0.out (Nat.le_refl _) (ids_lt hg)) (by omega)).mono ?_
  rintro e w1 ⟨rfl, hb1⟩
  have HB1 := hide (HB0.out.trans (hb1.mono hs0))
  have hs1 := HB1.out.size
  have HP1 := hide (HP0.out.keep hb1)
  have HS1 := hide (src_keep HS0.out hb1)
  have HC1 := hide (keepTy_below hb1 27 _ _ _ HC0.out)
  have HD1 := hide (keepTy_below hb1 27 _ _ _ HD0.out)
  clear hb1
  obtain ⟨p0, p1, p2, p3, p4, p5⟩ := cells6 HC1.out
  go_wp2_with fail
  refine (copied_any w1 aa ac an ad ab ca cc cn cd cb al P HP1.out HL.out).mono ?_
  rintro e w2 ⟨va, vc, vn, vd, vb, rfl, ⟨NB0, hnew0⟩, hb2⟩
  obtain ⟨NB, hNB, hnew⟩ := hnew0.bound hb2.size
  clear hnew0
  obtain ⟨⟨ia, ja, rfl⟩, ⟨ic, jc, rfl⟩, ⟨in_, jn, rfl⟩, ⟨id_, jd, rfl⟩, ⟨ib, jb, rfl⟩⟩ := hnew.form
  have hq3 := (Below.refl w2.heap.size w2).alloc (Nat.le_refl _) (.cells #[.slice ia P.avgs.length ja, .slice ic P.cur.length jc, .slice in_ P.nears.length jn, .bool al, .slice id_ P.drive.length jd, .slice ib P.code.length jb] 27)
  have hb23 := hb2.trans (hq3.mono hb2.size)
  have HI3 := hide (hnew.at.keep hq3)
  have HP3 := hide (HP1.out.keep hb23)
  have HS3 := hide (src_keep HS1.out hb23)
  have HC3 := hide (keepTy_below hb23 27 _ _ _ HC1.out)
  have HD3 := hide (keepTy_below hb23 27 _ _ _ HD1.out)
  have HM3 := hide (show MoSt w2 (w2.alloc (.cells #[.slice ia P.avgs.length ja, .slice ic P.cur.length jc, .slice in_ P.nears.length jn, .bool al, .slice id_ P.drive.length jd, .slice ib P.code.length jb] 27)) w1.heap.size NB w2.heap.size w2.heap.size (.slice ia P.avgs.length ja) (.slice ic P.cur.length jc) (.slice in_ P.nears.length jn) (.slice id_ P.drive.length jd) (.slice ib P.code.length jb) al P P.avgs P.cur from
    ⟨heap_new rfl _, (hnew.keep hq3).fam, fun k hk => .inl (hnew.low k (.inl hk)), fun k hk => .inl (hnew.low k (.inr (.inl hk))), fun k _ h2 => hq3.block k h2, ⟨Nat.le_refl _, by simp⟩, hb2.size, hq3.mono hb2.size⟩)
  obtain ⟨its, hits, hnr⟩ := hnew.nr
  have HITS := hide hits
  have HNR := hide hnr
  have HCO := hide hnew.code
  have HLA := hide (fun k hk => hnew.low k (.inl hk))
  have HLD := hide (fun k hk => hnew.low k (.inr (.inr (.inl hk))))
  have HLB := hide (fun k hk => hnew.low k (.inr (.inr (.inr hk))))
  have HB3 := hide (HB1.out.trans (hb23.mono hs1))
  have hs12 := hb2.size
  have HB12 := hide hb2
  clear hnew hits hnr hb2 hq3 hb23 p0 p1 p2 p3 p4 p5
  obtain ⟨q0, q1, q2, q3, q4, q5⟩ := cells6 HM3.out.g
  go_wp2_with fail
  generalize w2.alloc (.cells #[.slice ia P.avgs.length ja, .slice ic P.cur.length jc, .slice in_ P.nears.length jn, .bool al, .slice id_ P.drive.length jd, .slice ib P.code.length jb] 27) = w3 at *
  obtain ⟨G, hG⟩ : ∃ G, w2.heap.size = G := ⟨_, rfl⟩
  rw [hG] at HM3 hNB hs12 q0 q1 q2 q3 q4 q5 ⊢
  have HG := hide hG
  have hs3 := HB3.out.size
  have hG3 := HM3.out.n2.2
  have hGl := heap_lt HM3.out.g
  clear hG
  refine (hts_any w3 (tb.out _ HB3.out) E (er.out 0 (by decide) _ HB3.out) (er.out 1 (by decide) _ HB3.out) (er.out 2 (by decide) _ HB3.out) (by omega) ia ic in_ id_ ib ja jc jn jd jb al P HAL.out HI3.out HL.out).mono ?_
  rintro e w4 ⟨hht, hb4⟩
  obtain ⟨xa, ya, rfl, ho4⟩ := hs_own hht l5
  have HO4 := hide ho4
  have HI4 := hide (HI3.out.keep hb4)
  have HP4 := hide (HP3.out.keep hb4)
  have HS4 := hide (src_keep HS3.out hb4)
  have HC4 := hide (keepTy_below hb4 27 _ _ _ HC3.out)
  have HD4 := hide (keepTy_below hb4 27 _ _ _ HD3.out)
  have HM4 := hide (HM3.out.keep hb4)
  have HB4 := hide (HB3.out.trans (hb4.mono hs3))
  have hs4 := HB4.out.size
  have hs34 := hb4.size
  clear hht hb4 ho4 q0 q1 q2 q3 q4 q5
  obtain ⟨q0, q1, q2, q3, q4, q5⟩ := cells6 HM4.out.g
  go_wp2_with fail
  refine (hts_any w4 (tb.out _ HB4.out) E (er.out 0 (by decide) _ HB4.out) (er.out 1 (by decide) _ HB4.out) (er.out 2 (by decide) _ HB4.out) (by omega) ia ic in_ id_ ib ja jc jn jd jb al P HAL.out HI4.out HL.out).mono ?_
  rintro e w5 ⟨hht, hb5⟩
  obtain ⟨xb, yb, rfl, ho5⟩ := hs_own hht l5
  have HO5 := hide ho5
  have HA5 := hide (owi_keep HO4.out hb5)
  have HLA4 := hide (fun k (hk : (Value.slice xa (hlOf P).length ya).ownBlock = some k) => World.ownsRow.lt HO4.out k hk)
  have HP5 := hide (HP4.out.keep hb5)
  have HS5 := hide (src_keep HS4.out hb5)
  have HC5 := hide (keepTy_below hb5 27 _ _ _ HC4.out)
  have HD5 := hide (keepTy_below hb5 27 _ _ _ HD4.out)
  have HM5 := hide (HM4.out.keep hb5)
  have HB5 := hide (HB4.out.trans (hb5.mono hs4))
  have hs5 := HB5.out.size
  have hs45 := hb5.size
  clear hht hb5 ho5 q0 q1 q2 q3 q4 q5
  obtain ⟨p0, p1, p2, p3, p4, p5⟩ := cells6 HC5.out
  go_wp2_with fail
  refine (ref_hts_any w5 aa ac an ad ab ca cc cn cd cb al P HAL.out HP5.out HL.out).mono ?_
  rintro e w6 ⟨hht, hb6⟩
  obtain ⟨xw, yw, rfl, ho6⟩ := hs_own hht l5
  rw [sel_int]
  have HO6 := hide ho6
  have HA6 := hide (owi_keep HA5.out hb6)
  have HO56 := hide (owi_keep HO5.out hb6)
  have HLB5 := hide (fun k (hk : (Value.slice xb (hlOf P).length yb).ownBlock = some k) => World.ownsRow.lt HO5.out k hk)
  have HS6 := hide (src_keep HS5.out hb6)
  have HD6 := hide (keepTy_below hb6 27 _ _ _ HD5.out)
  have HM6 := hide (HM5.out.keep hb6)
  have HB6 := hide (HB5.out.trans (hb6.mono hs5))
  have hs6 := HB6.out.size
  have hs56 := hb6.size
  have hhl : (hlOf P).length ≤ 1099511627776 := by have := hl_len P; omega
  clear hht hb6 ho6 p0 p1 p2 p3 p4 p5
  go_wp2_with fail
  refine (num_sel P w6 E (HE.out.below HB6.out (Nat.le_refl _) (ids_lt hg))).mono ?_
  rintro e wz ⟨rfl, rfl⟩
  go_wp2_with fail
  refine (same_ints w6 xa xw _ ya yw (hlOf P) rfl (owi_ints HA6.out) (owi_ints HO6.out) hhl).mono ?_
  rintro e wz ⟨rfl, n6, rfl⟩
  go_wp2_with fail
  refine (same_ints (w6.drewN n6) xb xw _ yb yw (hlOf P) rfl (owi_ints (owi_keep HO56.out (below_drewN (Below.refl _ _) n6))) (owi_ints (owi_keep HO6.out (below_drewN (Below.refl _ _) n6))) hhl).mono ?_
  rintro e wz ⟨rfl, n7, rfl⟩
  have hb7 := below_drewN (below_drewN (Below.refl w6.heap.size w6) n6) n7
  have HA7 := hide (owi_keep HA6.out hb7)
  have HO57 := hide (owi_keep HO56.out hb7)
  have HO67 := hide (owi_keep HO6.out hb7)
  have HS7 := hide (src_keep HS6.out hb7)
  have HD7 := hide (keepTy_below hb7 27 _ _ _ HD6.out)
  have HM7 := hide (HM6.out.keep hb7)
  have HB7 := hide (HB6.out.trans (hb7.mono hs6))
  have hs67 := hb7.size
  clear hb7
  generalize (w6.drewN n6).drewN n7 = w7 at *
  have hs7 := HB7.out.size
  obtain ⟨p0, p1, p2, p3, p4, p5⟩ := cells6 HD7.out
  obtain ⟨q0, q1, q2, q3, q4, q5⟩ := cells6 HM7.out.g
  go_upto_if 57 with (fail)
  go_cut [4] (fun s wx => s = .bool false ∧ ∃ bs : List Nat, (bs.length ≤ P.code.length ∧ P.code.length ≤ bs.length) ∧ (∀ x ∈ bs, x < 256) ∧ MoSt w2 wx w1.heap.size NB G G (.slice ia P.avgs.length ja) (.slice ic P.cur.length jc) (.slice in_ P.nears.length jn) (.slice id_ P.drive.length jd) (.slice ib P.code.length jb) al { P with code := bs } P.avgs P.cur ∧ w7.grownBy wx (Value.slice ib P.code.length jb).ownBlock)
  case first =>
    by_cases hlen : R.code.length = P.code.length
    · have hz : ((R.code.length : Int) == (P.code.length : Int)) = true := by simp; omega
      have HLEN := hide hlen
      clear hlen
      by_cases h0 : P.code.length = 0
      · have hr0 : R.code.length = 0 := by have := HLEN.out; omega
        have H0 := hide h0
        have HR0 := hide (List.eq_nil_of_length_eq_zero hr0)
        have HMIN := hide (show Nat.min R.code.length P.code.length = 0 by rw [hr0]; exact Nat.zero_min _)
        clear h0 hr0
        go_wp2_with (with_reducible refine wpList_copy_nothing rfl (.tmp 59) (.tmp 61) 25 25 rfl 5 Tryd.underlying25 size5 ib bb P.code.length jb R.code.length db rfl rfl HMIN.out ?_)
        go_wp2_with fail
        go_meet
        exact ⟨by rfl, P.code, ⟨Nat.le_refl _, Nat.le_refl _⟩, HCO.out, HM7.out, ⟨rfl, rfl, rfl, Nat.le_refl _, fun _ _ _ => rfl⟩⟩
      · have hown : Own w7 w1.heap.size (.slice ib P.code.length jb) P.code := HM7.out.fam.1 3 _ rfl
        obtain ⟨g, cp, hgf⟩ := own_form hown (by omega)
        simp only [Value.slice.injEq] at hgf
        obtain ⟨rfl, _, rfl⟩ := hgf
        obtain ⟨hr256, hsrc⟩ := HS7.out
        rcases hsrc with ⟨_, h2⟩ | ⟨ad, c', h1, _, _, hcl⟩
        · have := HLEN.out
          rw [h2] at this
          exact absurd this.symm h0
        · simp only [Value.slice.injEq] at h1
          obtain ⟨rfl, _, rfl⟩ := h1
          obtain ⟨cur, hcur, hfit, hov⟩ := own_over HLEN.out hown
          have HCU := hide hcur
          have HOV := hide hov
          have HMIN := hide (show (u8s R.code).length = Nat.min R.code.length P.code.length by rw [u8s_len, HLEN.out]; exact (Nat.min_self _).symm)
          have HSRC := hide (show ∀ j v, (u8s R.code)[j]? = some v → w7.cell? (ad.add j) = some v from fun j v hv => by
            simp only [u8s, List.getElem?_map, Option.map_eq_some_iff] at hv
            obtain ⟨x, hx, rfl⟩ := hv
            exact hcl j x hx)
          have HFIT := hide (show 0 + (u8s R.code).length ≤ cur.size by omega)
          have HR2 := hide hr256
          clear hcur hfit hov hcl h0 hown hr256
          go_wp2_with (with_reducible refine wpList_copy_own rfl (.tmp 59) (.tmp 61) 25 25 rfl 5 Tryd.underlying25 size5 g 0 P.code.length jb ad R.code.length db rfl rfl cur 5 HCU.out (u8s R.code) HMIN.out HSRC.out HFIT.out (u8s_one _) ?_)
          go_wp2_with fail
          go_meet
          exact ⟨by rfl, R.code, ⟨by have := HLEN.out; omega, by have := HLEN.out; omega⟩, HR2.out, HM7.out.setB R.code HLB.out (grown_row _ _ _) HOV.out, grown_row _ _ _⟩
    · have hz : ((R.code.length : Int) == (P.code.length : Int)) = false := by simp; omega
      clear hlen
      go_wp2_with fail
      go_loopw [66] (fun k wr => ∃ i : Nat, k = .int .i64 (i : Nat) ∧ i ≤ P.code.length ∧ MoSt w2 wr w1.heap.size NB G G (.slice ia P.avgs.length ja) (.slice ic P.cur.length jc) (.slice in_ P.nears.length jn) (.slice id_ P.drive.length jd) (.slice ib P.code.length jb) al { P with code := zeroed i P.code } P.avgs P.cur ∧ w7.grownBy wr (Value.slice ib P.code.length jb).ownBlock) (fun k _ => P.code.length - (intOf k).toNat)
      case atStart => exact ⟨0, rfl, by omega, by rw [zeroed_zero]; exact HM7.out, ⟨rfl, rfl, rfl, Nat.le_refl _, fun _ _ _ => rfl⟩⟩
      case round =>
        obtain ⟨i, rfl, hi, hm, hgr⟩ := hrel
        have HMi := hide hm
        have HGR := hide hgr
        clear hm hgr p0 p1 p2 p3 p4 p5 q0 q1 q2 q3 q4 q5
        obtain ⟨q0, q1, q2, q3, q4, q5⟩ := cells6 HMi.out.g
        by_cases hlt : i < P.code.length
        · have hi1 : (i : Int) < (P.code.length : Int) := by omega
          have hown : Own wr w1.heap.size (.slice ib P.code.length jb) (zeroed i P.code) := HMi.out.fam.1 3 _ rfl
          have hzl := zeroed_len i P.code hi
          obtain ⟨g, cp, hgf⟩ := own_form hown (by omega)
          simp only [Value.slice.injEq] at hgf
          obtain ⟨rfl, _, rfl⟩ := hgf
          obtain ⟨x, hx⟩ : ∃ x, (zeroed i P.code)[i]? = some x := ⟨_, List.getElem?_eq_getElem (by omega)⟩
          obtain ⟨hc, hf, hcp1, hcp2⟩ := own_cellsB hown i x hx
          have HOW := hide hown
          have HZ := hide (zeroed_step i P.code hlt)
          clear hown hx hzl
          go_wp2_with fail
          have hnew := own_put HOW.out i 0
          rw [HZ.out] at hnew
          have hgs := grown_set wr g i (.int .u8 (0 : Nat))
          exact ⟨⟨i + 1, by simp, by omega, HMi.out.setB _ HLB.out hgs hnew, HGR.out.trans hgs⟩, by simp [intOf]; omega⟩
        · obtain rfl : i = P.code.length := by omega
          go_wp2_with fail
          go_meet
          exact ⟨by rfl, zeroed P.code.length P.code, ⟨by rw [zeroed_len _ _ (Nat.le_refl _)]; exact Nat.le_refl _, by rw [zeroed_len _ _ (Nat.le_refl _)]; exact Nat.le_refl _⟩, zeroed_lt _ HCO.out, HMi.out, HGR.out⟩
  case rest =>
    obtain ⟨rfl, bs, hbl, hb256, hmo, hgr⟩ := hcut
    have HMO := hide hmo
    have HBL := hide hbl
    have H256 := hide hb256
    have hrB : w7.ownsRow w1.heap.size 5 1 (.slice ib P.code.length jb) P.code.length (u8s P.code) := HM7.out.fam.1 3 _ rfl
    have HA8 := hide (owi_other HA7.out hrB (by decide) hgr)
    have HO58 := hide (owi_other HO57.out hrB (by decide) hgr)
    have HO68 := hide (owi_other HO67.out hrB (by decide) hgr)
    have HB8 := hide (HB1.out.trans ((HB12.out.trans hmo.below).mono hs1))
    have hs8 := hgr.size
    clear hmo hbl hb256 hgr hrB p0 p1 p2 p3 p4 p5 q0 q1 q2 q3 q4 q5
    obtain ⟨q0, q1, q2, q3, q4, q5⟩ := cells6 HMO.out.g
    obtain ⟨w8, hw8⟩ : ∃ w8, wc = w8 := ⟨_, rfl⟩
    subst hw8
    go_wp2_with fail
    go_loopw [77] (fun k wr => ∃ i : Nat, k = .int .i64 (i : Nat) ∧ i ≤ P.avgs.length ∧ MoSt w2 wr w1.heap.size NB G G (.slice ia P.avgs.length ja) (.slice ic P.cur.length jc) (.slice in_ P.nears.length jn) (.slice id_ P.drive.length jd) (.slice ib P.code.length jb) al { P with code := bs } (minus i P.avgs) P.cur ∧ wc.grownBy wr (Value.slice ia P.avgs.length ja).ownBlock) (fun k _ => P.avgs.length - (intOf k).toNat)
    case atStart => exact ⟨0, rfl, by omega, by rw [minus_zero]; exact HMO.out, ⟨rfl, rfl, rfl, Nat.le_refl _, fun _ _ _ => rfl⟩⟩
    case round =>
      obtain ⟨i, rfl, hi, hm, hgr⟩ := hrel
      have HMi := hide hm
      have HGR := hide hgr
      clear hm hgr q0 q1 q2 q3 q4 q5
      obtain ⟨q0, q1, q2, q3, q4, q5⟩ := cells6 HMi.out.g
      by_cases hlt : i < P.avgs.length
      · have hi1 : (i : Int) < (P.avgs.length : Int) := by omega
        have hown := HMi.out.two.1
        have hzl := minus_len i P.avgs hi
        obtain ⟨g, cp, hgf⟩ := owi_form hown (by omega)
        simp only [Value.slice.injEq] at hgf
        obtain ⟨rfl, _, rfl⟩ := hgf
        obtain ⟨x, hx⟩ : ∃ x, (minus i P.avgs)[i]? = some x := ⟨_, List.getElem?_eq_getElem (by omega)⟩
        obtain ⟨hc, hf⟩ := owi_cells hown i x hx
        obtain ⟨hcp1, hcp2⟩ := owi_cap hown
        have HOW := hide hown
        have HZ := hide (minus_step i P.avgs hlt)
        clear hown hx hzl
        go_wp2_with fail
        have hnew := owi_put HOW.out i (-1)
        rw [HZ.out] at hnew
        have hgs := grown_set wr g i (.int .i64 (-1))
        exact ⟨⟨i + 1, by simp, by omega, HMi.out.setA _ hgs hnew, HGR.out.trans hgs⟩, by simp [intOf]; omega⟩
      · obtain rfl : i = P.avgs.length := by omega
        obtain ⟨P2, hP2⟩ : ∃ P2 : Prg, P2 = ⟨minus P.avgs.length P.avgs, P.cur, P.nears, al, P.drive, bs⟩ := ⟨_, rfl⟩
        have e1 : P2.avgs.length = P.avgs.length := by rw [hP2]; exact minus_len _ _ (Nat.le_refl _)
        have e2 : P2.code.length = P.code.length := by rw [hP2]; have := HBL.out; show bs.length = _; omega
        have e3 : P2.cur.length = P.cur.length := by rw [hP2]
        have e4 : P2.nears.length = P.nears.length := by rw [hP2]
        have e5 : P2.drive.length = P.drive.length := by rw [hP2]
        have e6 : P2.all = al := by rw [hP2]
        have HAN := hide (minus_ans P2 P.avgs.length (by rw [hP2]; exact minus_all _))
        have HP2 := hide (show PrgAt wr (.slice ia P2.avgs.length ja) (.slice ic P2.cur.length jc) (.slice in_ P2.nears.length jn) (.slice id_ P2.drive.length jd) (.slice ib P2.code.length jb) P2 from by
          rw [e1, e2, e3, e4, e5, hP2]
          exact HMi.out.prgAt HITS.out HNR.out HG.out H256.out wr (fun u _ => keepTy_refl wr u))
        have HL2 := hide (show Little P2 1099511627776 from by
          rw [hP2]
          exact small_minus HL.out _ _ (by rw [minus_len _ _ (Nat.le_refl _)]; exact l1) (by have := HBL.out; omega) al)
        have HBr := hide (HB1.out.trans ((HB12.out.trans HMi.out.below).mono hs1))
        have hsr := HBr.out.size
        have HTS := hide (show Calls Tryd.prog 12 #[.agg #[.slice ia P.avgs.length ja, .slice ic P.cur.length jc, .slice in_ P.nears.length jn, .bool al, .slice id_ P.drive.length jd, .slice ib P.code.length jb]] wr (fun e w' => HsOut P2 (.iface 108 (.pointer (some (E 0)))) .nilIface wr.heap.size e w' ∧ Below wr.heap.size wr w') from by
          have h := hts_any wr (tb.out _ HBr.out) E (er.out 0 (by decide) _ HBr.out) (er.out 1 (by decide) _ HBr.out) (er.out 2 (by decide) _ HBr.out) (by omega) ia ic in_ id_ ib ja jc jn jd jb al P2 e6 HP2.out HL2.out
          rw [e1, e2, e3, e4, e5] at h
          exact h)
        have hAa : ∀ k, (Value.slice xa (hlOf P).length ya).ownBlock = some k → (Value.slice ia P.avgs.length ja).ownBlock ≠ some k := fun k hk e => by have h1 := HLA4.out k hk; have h2 := HLA.out k e; omega
        have hAb : ∀ k, (Value.slice xb (hlOf P).length yb).ownBlock = some k → (Value.slice ia P.avgs.length ja).ownBlock ≠ some k := fun k hk e => by have h1 := HLB5.out k hk; have h2 := HLA.out k e; omega
        have HAr := hide (owi_apart HA8.out HGR.out hAa)
        have HO5r := hide (owi_apart HO58.out HGR.out hAb)
        have HO6r := hide (owi_apart HO68.out HGR.out (fun k hk e => by have h1 := World.ownsRow.lt HO6.out k hk; have h2 := HLA.out k e; omega))
        have E16 := hide (And.intro e1 (And.intro e2 (And.intro e3 (And.intro e4 (And.intro e5 e6)))))
        have hdl : P2.drive = P.drive := by rw [hP2]
        have HDL := hide hdl
        clear hAa hAb e1 e2 e3 e4 e5 e6 hP2 hdl
        go_wp2_with fail
        refine HTS.out.mono ?_
        rintro e w9 ⟨hht, hb9⟩
        rw [HsOut, HAN.out] at hht
        subst hht
        have HM9 := hide (HMi.out.keep hb9)
        have HP9 := hide (HP2.out.keep hb9)
        have HA9 := hide (owi_keep HAr.out hb9)
        have HO59 := hide (owi_keep HO5r.out hb9)
        have HO69 := hide (owi_keep HO6r.out hb9)
        have HB9 := hide (HBr.out.trans (hb9.mono hsr))
        have hs9 := HB9.out.size
        have HCP := hide (show Calls Tryd.prog 9 #[.agg #[.slice ia P.avgs.length ja, .slice ic P.cur.length jc, .slice in_ P.nears.length jn, .bool al, .slice id_ P.drive.length jd, .slice ib P.code.length jb]] w9 (fun e w' => ∃ va vc vn vd vb, e = .returned (.agg #[va, vc, vn, .bool al, vd, vb]) ∧ (∃ NB, NewP w' w9.heap.size NB va vc vn vd vb P2) ∧ Below w9.heap.size w9 w') from by
          have h := copied_any w9 ia ic in_ id_ ib ja jc jn jd jb al P2 HP9.out HL2.out
          obtain ⟨e1, e2, e3, e4, e5, e6⟩ := E16.out
          rw [e1, e2, e3, e4, e5] at h
          exact h)
        clear hb9 q0 q1 q2 q3 q4 q5
        obtain ⟨q0, q1, q2, q3, q4, q5⟩ := cells6 HM9.out.g
        go_wp2_with fail
        refine HCP.out.mono ?_
        rintro e w10 ⟨va2, vc2, vn2, vd2, vb2, rfl, ⟨NB2, hnew2⟩, hb10⟩
        obtain ⟨⟨ia2, ja2, rfl⟩, ⟨ic2, jc2, rfl⟩, ⟨in2, jn2, rfl⟩, ⟨id2, jd2, rfl⟩, ⟨ib2, jb2, rfl⟩⟩ := hnew2.form
        have HN10 := hide hnew2.at
        have HM10 := hide (HM9.out.keep hb10)
        have HA10 := hide (owi_keep HA9.out hb10)
        have HO510 := hide (owi_keep HO59.out hb10)
        have HO610 := hide (owi_keep HO69.out hb10)
        have HB10 := hide (HB9.out.trans (hb10.mono hs9))
        have hs10 := HB10.out.size
        clear hnew2 hb10 q0 q1 q2 q3 q4 q5
        go_wp2_with fail
        refine (ref_hts_any w10 ia2 ic2 in2 id2 ib2 ja2 jc2 jn2 jd2 jb2 al P2 E16.out.2.2.2.2.2 HN10.out HL2.out).mono ?_
        rintro e w11 ⟨hht, hb11⟩
        rw [HsOut, HAN.out] at hht
        subst hht
        have HM11 := hide (HM10.out.keep hb11)
        have HA11 := hide (owi_keep HA10.out hb11)
        have HO511 := hide (owi_keep HO510.out hb11)
        have HO611 := hide (owi_keep HO610.out hb11)
        have HB11 := hide (HB10.out.trans (hb11.mono hs10))
        have hs11 := HB11.out.size
        clear hb11
        go_wp2_with fail
        refine (num_code w11 E (HE.out.below HB11.out (Nat.le_refl _) (ids_lt hg))).mono ?_
        rintro e wz ⟨rfl, rfl⟩
        go_wp2_with fail
        refine (same_ints w11 none none 0 0 0 [] rfl (.inl ⟨rfl, rfl⟩) (.inl ⟨rfl, rfl⟩) (by omega)).mono ?_
        rintro e wz ⟨rfl, n6, rfl⟩
        go_wp2_with fail
        refine (same_ints (w11.drewN n6) xa xw _ ya yw (hlOf P) rfl (owi_ints (owi_keep HA11.out (below_drewN (Below.refl _ _) n6))) (owi_ints (owi_keep HO611.out (below_drewN (Below.refl _ _) n6))) hhl).mono ?_
        rintro e wz ⟨rfl, n7, rfl⟩
        have hb12 := below_drewN (below_drewN (Below.refl w11.heap.size w11) n6) n7
        have HM12 := hide (HM11.out.keep hb12)
        have HA12 := hide (owi_keep HA11.out hb12)
        have HO512 := hide (owi_keep HO511.out hb12)
        have HB12' := hide (HB11.out.trans (hb12.mono hs11))
        clear hb12
        generalize (w11.drewN n6).drewN n7 = w12 at *
        have hs12' := HB12'.out.size
        obtain ⟨q0, q1, q2, q3, q4, q5⟩ := cells6 HM12.out.g
        go_wp2_with fail
        have hq := (Below.refl w12.heap.size w12).alloc (Nat.le_refl _) (.cells #[.slice xa (hlOf P).length ya, .slice xb (hlOf P).length yb, .slice none 0 0, .slice ia P.avgs.length ja, .slice id_ P.drive.length jd] 22)
        have hf := fam5 (B := w1.heap.size) (S1 := w3.heap.size) (S2 := w4.heap.size) (owi_mono (owi_keep HA12.out hq) (by omega)) (owi_mono (owi_keep HO512.out hq) (by omega)) (owi_keep HM12.out.two.1 hq) (owi_keep HM12.out.two.2.1 hq) HLA4.out (fun k hk => (HLB5.out k hk).1) (fun k hk => by have := HLA.out k hk; omega) (fun k hk => by have := HLD.out k hk; omega) hs34 HM12.out.two.2.2
        have hw12 : w1.heap.size ≤ w12.heap.size := by have := HM12.out.n2.2; omega
        refine (owni_any _ w1.heap.size w12.heap.size 5 5 _ rfl (by omega) (by omega) (Nat.le_refl _) (by omega) (heads5 _ _ _ _ _ _) hf (Nat.le_trans hw12 hq.size) (fun k r hr => ?_)).mono ?_
        · match k, hr with
          | 0, hr => simp at hr; subst hr; exact hhl
          | 1, hr => simp at hr; subst hr; exact hhl
          | 2, hr => simp at hr; subst hr; simp
          | 3, hr => simp at hr; subst hr; show (minus P.avgs.length P.avgs).length ≤ _; rw [minus_len _ _ (Nat.le_refl _)]; exact l1
          | 4, hr => simp at hr; subst hr; exact l4
        · rintro e w13 ⟨rfl, _, hft⟩
          have HBZ := hide (HB12'.out.trans ((hq.mono hs12').trans ((hft.below (inrows_low hf) (Nat.le_trans hw12 hq.size)).mono hs1)))
          clear hq hf hft
          go_wp2_with fail
          go_ret
          exact ⟨rfl, HBZ.out⟩
end Go.Proofs.YtbimpoabiafdaaaDoor
