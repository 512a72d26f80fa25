/- VerifyMore: the walk -/
import Derived.Test.YtbimpoabiafdaaaDoorWWay
import Derived.Test.YtbimpoabiafdaaaDoorMw
namespace Go.Proofs.YtbimpoabiafdaaaDoor
open Go.RowKit Vf
set_option maxRecDepth 100000 in
set_option maxHeartbeats 16000000 in
theorem more_walk (w : World) (T : TabAt w) (E : Nat → Addr) (hE : Errs w E allErrs) (hg : 25 ≤ w.heap.size) (aa ac an ad ab : Option Addr) (ca cc cn cd cb : Nat) (al : Bool) (P : Prg) (hal : P.all = al)
    (hP : PrgAt w (.slice aa P.avgs.length ca) (.slice ac P.cur.length cc) (.slice an P.nears.length cn) (.slice ad P.drive.length cd) (.slice ab P.code.length cb) P) (hL : Little P 549755813000) (a1 : Option Addr) (c1 : Nat) (zs : List Int) (hzs : Ints w (.slice a1 zs.length c1) zs) (hlz : zs.length ≤ 549755813000)
    (a2 : Option Addr) (c2 : Nat) (ts : List ByteArray) (hts : Texts w (.slice a2 ts.length c2) ts) (hlt : ts.length ≤ 549755813000) (drv : Int) (_hd0 : -9223372036854775808 ≤ drv) (_hd1 : drv ≤ 9223372036854775807) :
    Calls Tryd.prog 7 #[.agg #[.slice aa P.avgs.length ca, .slice ac P.cur.length cc, .slice an P.nears.length cn, .bool al, .slice ad P.drive.length cd, .slice ab P.code.length cb], .slice a1 zs.length c1, .slice a2 ts.length c2, .int .i64 drv] w fun e w' => e = .returned (.bool true) ∧ Below w.heap.size w w' := by
  have hq0 := (Below.refl w.heap.size w).alloc (Nat.le_refl _) (.cells #[.slice aa P.avgs.length ca, .slice ac P.cur.length cc, .slice an P.nears.length cn, .bool al, .slice ad P.drive.length cd, .slice ab P.code.length cb] 27)
  have HT := hide T
  have HE := hide hE
  have HLs := hide hL
  have HLT := hide hlt
  have HL := hide (little_mono hL (by omega : 549755813000 ≤ 1099511627776))
  have HAL := hide hal
  have HZS := hide hzs
  have HTS := hide hts
  have HP0 := hide (hP.keep hq0)
  have HC0 := hide (heap_new (w := w) rfl (.cells #[.slice aa P.avgs.length ca, .slice ac P.cur.length cc, .slice an P.nears.length cn, .bool al, .slice ad P.drive.length cd, .slice ab P.code.length cb] 27))
  have HB0 := hide hq0
  have l1 := HL.out.avgs
  have l2 := HL.out.cur
  have l3 := HL.out.nears
  have l5 := HL.out.code
  clear T hE hq0 hP hL hal hzs hts
  have er := hide fun (k : Nat) (hk : k ∈ allErrs) (w1 : World) (h : Below w.heap.size w w1) => err_below (HE.out.cell k hk) h (ids_lt hg k hk)
  have tb := hide fun (w1 : World) (h : Below w.heap.size w w1) => tab_below HT.out h (by omega : 24 < w.heap.size)
  go_enter Tryd.func7, Tryd.ntmps7
  go_wp2_with fail
  generalize w.alloc (.cells #[.slice aa P.avgs.length ca, .slice ac P.cur.length cc, .slice an P.nears.length cn, .bool al, .slice ad P.drive.length cd, .slice ab P.code.length cb] 27) = w0 at *
  have hs0 := HB0.out.size
  refine (fixed_any w0 (tb.out _ HB0.out) E (HE.out.below HB0.out (Nat.le_refl _) (ids_lt hg)) (by omega)).mono ?_
  rintro e w1 ⟨rfl, hb1⟩
  have HB1 := hide (HB0.out.trans (hb1.mono hs0))
  have hs1 := HB1.out.size
  have HP1 := hide (HP0.out.keep hb1)
  have HC1 := hide (keepTy_below hb1 27 _ _ _ HC0.out)
  clear hb1
  obtain ⟨p0, p1, p2, p3, p4, p5⟩ := cells6 HC1.out
  go_wp2_with fail
  refine (check_any w1 (tb.out _ HB1.out) E (er.out 0 (by decide) _ HB1.out) (er.out 1 (by decide) _ HB1.out) (er.out 2 (by decide) _ HB1.out) (by omega) aa ac an ad ab ca cc cn cd cb al P HAL.out HP1.out HL.out).mono ?_
  rintro e w2 ⟨hck, hb2⟩
  cases ha : ans P with
  | none =>
    rw [CkOut, ha] at hck
    subst hck
    have hq3 := (Below.refl w2.heap.size w2).alloc (Nat.le_refl _) (.cells #[.int .i64 0, .int .i64 0] 31)
    obtain ⟨x0, x1⟩ := cells2 (heap_new (w := w2) rfl (.cells #[.int .i64 0, .int .i64 0] 31))
    have HB3 := hide (HB1.out.trans ((hb2.trans (hq3.mono hb2.size)).mono hs1))
    clear ha hb2 hq3 p0 p1 p2 p3 p4 p5
    go_wp2_with fail
    go_ret
    exact ⟨rfl, HB3.out⟩
  | some H =>
    rw [CkOut, ha] at hck
    subst hck
    have HA := hide ha
    have hHl : H.length ≤ 1099511627776 := by have := (ans_len ha).2.1; omega
    have hHm := (ans_len ha).2.2.1
    have hq3 := (Below.refl w2.heap.size w2).alloc (Nat.le_refl _) (.cells #[.int .i64 H.length, .int .i64 (mx H : Nat)] 31)
    have hb23 := hb2.trans (hq3.mono hb2.size)
    have HP3 := hide (HP1.out.keep hb23)
    have HC3 := hide (keepTy_below hb23 27 _ _ _ HC1.out)
    have HX3 := hide (heap_new (w := w2) rfl (.cells #[.int .i64 H.length, .int .i64 (mx H : Nat)] 31))
    have HB3 := hide (HB1.out.trans (hb23.mono hs1))
    clear ha hb2 hq3 hb23 p0 p1 p2 p3 p4 p5
    obtain ⟨p0, p1, p2, p3, p4, p5⟩ := cells6 HC3.out
    go_wp2_with fail
    generalize w2.alloc (.cells #[.int .i64 H.length, .int .i64 (mx H : Nat)] 31) = w3 at *
    generalize w2.heap.size = X at *
    have hs3 := HB3.out.size
    refine (copied_any w3 aa ac an ad ab ca cc cn cd cb al P HP3.out HL.out).mono ?_
    rintro e w4 ⟨va, vc, vn, vd, vb, rfl, ⟨NB0, hnew0⟩, hb4⟩
    obtain ⟨NB, hNB, hnew⟩ := hnew0.bound hb4.size
    have hBN := hnew.bn
    clear hnew0
    have hx3 := heap_lt HX3.out
    have hq5 := (Below.refl w4.heap.size w4).alloc (Nat.le_refl _) (.cells #[va, vc, vn, .bool al, vd, vb] 27)
    have hb45 := hb4.trans (hq5.mono hb4.size)
    have HM5 := hide (show MoSt w4 (w4.alloc (.cells #[va, vc, vn, .bool al, vd, vb] 27)) w3.heap.size NB w4.heap.size w4.heap.size va vc vn vd vb al P P.avgs P.cur from
      ⟨heap_new rfl _, (hnew.keep hq5).fam, fun k hk => .inl (hnew.low k (.inl hk)), fun k hk => .inl (hnew.low k (.inr (.inl hk))), fun k _ h2 => hq5.block k h2, ⟨Nat.le_refl _, by simp⟩, hb4.size, hq5.mono hb4.size⟩)
    obtain ⟨its, hits, hnr⟩ := hnew.nr
    have HITS := hide hits
    have HNR := hide hnr
    have HCO := hide hnew.code
    have HB4 := hide (HB3.out.trans (hb4.mono hs3))
    have hs34 := hb4.size
    have HB34 := hide hb4
    clear hnew hits hnr hb4 hq5 hb45 p0 p1 p2 p3 p4 p5
    obtain ⟨⟨iv, jv, rfl⟩, ⟨iu, ju, rfl⟩⟩ : (∃ i j, vd = .slice i P.drive.length j) ∧ (∃ i j, vb = .slice i P.code.length j) := ⟨row_shape (HM5.out.fam.1 2 _ rfl), row_shape (HM5.out.fam.1 3 _ rfl)⟩
    obtain ⟨vni, vnj, rfl⟩ : ∃ i j, vn = .slice i P.nears.length j := by
      have h := row_shape HNR.out.1
      rw [show its.length = P.nears.length by rw [← HITS.out, List.length_map]] at h
      exact h
    obtain ⟨⟨iaa, jaa, rfl⟩, ⟨icc, jcc, rfl⟩⟩ : (∃ i j, va = .slice i P.avgs.length j) ∧ (∃ i j, vc = .slice i P.cur.length j) := ⟨row_shape (HM5.out.fam.1 0 _ rfl), row_shape (HM5.out.fam.1 1 _ rfl)⟩
    go_wp2_with fail
    generalize w4.alloc (.cells #[.slice iaa P.avgs.length jaa, .slice icc P.cur.length jcc, .slice vni P.nears.length vnj, .bool al, .slice iv P.drive.length jv, .slice iu P.code.length ju] 27) = w5 at *
    obtain ⟨G, hG⟩ : ∃ G, w4.heap.size = G := ⟨_, rfl⟩
    rw [hG] at HM5 hs34 hNB ⊢
    have HG := hide hG
    clear hG
    go_loopw [36] (fun k wr => ∃ i va, k = .int .i64 (i : Nat) ∧ i ≤ zs.length ∧ MoSt w4 wr w3.heap.size NB G G va (.slice icc P.cur.length jcc) (.slice vni P.nears.length vnj) (.slice iv P.drive.length jv) (.slice iu P.code.length ju) al P (moreA P.avgs (zs.take i)) P.cur) (fun k _ => zs.length - (intOf k).toNat)
    case atStart => exact ⟨0, _, rfl, by omega, by simpa [moreA] using HM5.out⟩
    case round =>
      obtain ⟨i, va, rfl, hi, hm⟩ := hrel
      have HM := hide hm
      clear hm HM5
      obtain ⟨L, hL⟩ : ∃ L, moreA P.avgs (zs.take i) = L := ⟨_, rfl⟩
      rw [hL] at HM
      have hL16 : L.length ≤ 16 := by
        have h16 := (ans_is HA.out)
        obtain ⟨_, _, ht, _⟩ := h16
        obtain ⟨_, _, _, h⟩ := moreA_ok (zs.take i) P.avgs ht.2.1
        rw [← hL]; exact h
      obtain ⟨ia, ja, rfl⟩ := row_shape (show wr.ownsRow _ 3 1 va L.length (intCells L) from HM.out.fam.1 0 _ rfl)
      obtain ⟨q0, q1, q2, q3, q4, q5⟩ := cells6 HM.out.g
      by_cases hlt : i < zs.length
      · obtain ⟨x, hx⟩ : ∃ x, zs[i]? = some x := ⟨_, List.getElem?_eq_getElem hlt⟩
        obtain ⟨adx, rfl, hcx⟩ := ints_get (ints_keep HZS.out (HB4.out.trans (HM.out.below.mono (by omega)))) hx
        have hi1 : (i : Int) < (zs.length : Int) := by omega
        have HST := hide (show moreA P.avgs (zs.take (i + 1)) = if L.length < 16 then L ++ [((x % 18446744073709551616) % 100000)] else L from by
          rw [List.take_add_one, hx, Option.toList_some, moreA_snoc, hL])
        have HLL := hide hL
        clear hL hx
        by_cases h16 : L.length < 16
        · have h16i : (L.length : Int) < 16 := by omega
          rw [if_pos h16] at HST
          obtain ⟨z, hz⟩ : ∃ z, (x % 18446744073709551616) % 100000 = z := ⟨_, rfl⟩
          have hwz : wrap64 ((IntKind.u64.wrap x).tmod 100000) = z := (wrap_more x).trans hz
          rw [hz] at HST
          obtain ⟨i6, j6, w6, hr6, hg6, hm6⟩ := grow_avgs z HM.out (by omega)
          obtain ⟨r0, r1, r2, r3, r4, r5⟩ := cells6 hg6
          have hf6 := free_at hg6 0
          have HR6 := hide hr6
          have HM6 := hide hm6
          clear hz h16 hr6 hg6 hm6
          go_wp2_with (at_builtin; refine wpList_run 22 _ w6 _ _ _ rfl (.tmp 45) (.tmp 50) rfl rfl rfl HR6.out ?_)
          go_wp2_with fail
          exact ⟨⟨i + 1, _, by simp, by omega, by rw [HST.out]; exact HM6.out⟩, by simp [intOf]; omega⟩
        · have h16i : ¬ (L.length : Int) < 16 := by omega
          rw [if_neg h16] at HST
          clear h16
          go_wp2_with fail
          exact ⟨⟨i + 1, _, by simp, by omega, by rw [HST.out]; exact HM.out⟩, by simp [intOf]; omega⟩
      · obtain rfl : i = zs.length := by omega
        rw [List.take_length] at hL
        have hL1 : 1 ≤ L.length := by
          obtain ⟨_, _, ht, _⟩ := ans_is HA.out
          obtain ⟨az, h, _⟩ := moreA_ok zs P.avgs ht.2.1
          rw [← hL, h, List.length_append]
          have := ht.1
          omega
        have HLL := hide hL
        obtain ⟨wo, rfl⟩ : ∃ wo : World, wo = wr := ⟨_, rfl⟩
        have hwl : IntKind.i64.wrap ((L.length : Int) - 1) = (L.length : Int) - 1 := by rw [IntKind.wrap_i64]; omega
        clear hL q0 q1 q2 q3 q4 q5 hlt hi
        go_wp2_with fail
        go_loopw [56] (fun k wr => ∃ i vc, k = .int .i64 (i : Nat) ∧ i ≤ ts.length ∧ MoSt w4 wr w3.heap.size NB G G (.slice ia L.length ja) vc (.slice vni P.nears.length vnj) (.slice iv P.drive.length jv) (.slice iu P.code.length ju) al P L (moreC L.length P.cur (ts.take i))) (fun k _ => ts.length - (intOf k).toNat)
        case atStart => exact ⟨0, _, rfl, by omega, by simpa [moreC] using HM.out⟩
        case round =>
          obtain ⟨i, vc, rfl, hi, hm⟩ := hrel
          have HM2 := hide hm
          clear hm HM
          obtain ⟨K, hK⟩ : ∃ K, moreC L.length P.cur (ts.take i) = K := ⟨_, rfl⟩
          rw [hK] at HM2
          have hKl : K.length ≤ 2199023255552 := by
            obtain ⟨cs, h, _, h3⟩ := moreC_ok L.length (by omega) (ts.take i) P.cur
            rw [← hK, h, List.length_append]
            rw [List.length_take] at h3
            omega
          obtain ⟨ic, jc, rfl⟩ := row_shape (show wr.ownsRow _ 63 2 vc K.length (leafCells K) from HM2.out.fam.1 1 _ rfl)
          obtain ⟨q0, q1, q2, q3, q4, q5⟩ := cells6 HM2.out.g
          by_cases hlt : i < ts.length
          · obtain ⟨x, hx⟩ : ∃ x, ts[i]? = some x := ⟨_, List.getElem?_eq_getElem hlt⟩
            obtain ⟨adx, rfl, hcx⟩ := texts_get (texts_keep HTS.out (HB4.out.trans (HM2.out.below.mono (by omega)))) hx
            have hi1 : (i : Int) < (ts.length : Int) := by omega
            have HST := hide (show moreC L.length P.cur (ts.take (i + 1)) = if x.size ≤ 64 then K ++ [((L.length : Int) - 1, x)] else K from by
              rw [List.take_add_one, hx, Option.toList_some, moreC_snoc, hK])
            clear hK hx
            by_cases h64 : x.size ≤ 64
            · have h64i : (x.size : Int) ≤ 64 := by omega
              rw [if_pos h64] at HST
              obtain ⟨z, hz⟩ : ∃ z, (L.length : Int) - 1 = z := ⟨_, rfl⟩
              have hwz : IntKind.i64.wrap ((L.length : Int) - 1) = z := hwl.trans hz
              rw [hz] at HST
              obtain ⟨i6, j6, w6, hr6, hg6, hm6⟩ := grow_cur z x HM2.out hKl
              obtain ⟨r0, r1, r2, r3, r4, r5⟩ := cells6 hg6
              have hf6 := free_at hg6 1
              have HR6 := hide hr6
              have HM6 := hide hm6
              clear h64 hr6 hg6 hm6 hwl
              go_wp2_with (at_builtin; refine wpList_run 23 _ w6 _ _ _ rfl (.tmp 64) (.tmp 71) rfl rfl rfl HR6.out ?_)
              go_wp2_with fail
              exact ⟨⟨i + 1, _, by simp, by omega, by rw [HST.out]; exact HM6.out⟩, by simp [intOf]; omega⟩
            · have h64i : ¬ (x.size : Int) ≤ 64 := by omega
              rw [if_neg h64] at HST
              clear h64
              go_wp2_with fail
              exact ⟨⟨i + 1, _, by simp, by omega, by rw [HST.out]; exact HM2.out⟩, by simp [intOf]; omega⟩
          · obtain rfl : i = ts.length := by omega
            rw [List.take_length] at hK
            have HKK := hide hK
            clear hK hwl
            have HXr := hide (keepTy_below (HB34.out.trans HM2.out.below) 31 _ _ _ HX3.out)
            have HBr := hide (HB3.out.trans ((HB34.out.trans HM2.out.below).mono hs3))
            have hKi : (0 : Int) < (K.length : Int) ∨ ¬ (0 : Int) < (K.length : Int) := by omega
            obtain ⟨wo, rfl⟩ : ∃ wo : World, wo = wr := ⟨_, rfl⟩
            go_upto_if 79 with (fail)
            go_cut [16] (fun s wx => ∃ ia ja ic jc iN jN iD jD iu ju Q, GrQ wx G H ia ja ic jc iN jN iD jD iu ju Q ∧ Below w3.heap.size wo wx)
            case first =>
              rcases hKi with hKp | hKn
              · have hK1 : 0 < K.length := by omega
                have hwk : IntKind.i64.wrap ((K.length : Int) - 1) = (K.length : Int) - 1 := by rw [IntKind.wrap_i64]; omega
                have hwu : IntKind.u64.wrap (K.length : Int) = (K.length : Int) := by rw [IntKind.wrap_u64]; omega
                obtain ⟨d, hd⟩ : ∃ d, wrap64 ((IntKind.u64.wrap drv).tmod (K.length : Int)) = d := ⟨_, rfl⟩
                have HD0 := hide (wrap_drv drv K.length hK1 (by omega) d hd)
                have hwo3 : w3.heap.size ≤ wo.heap.size := by have := HM2.out.n2.2; omega
                have hz1 := (Below.refl wo.heap.size wo).alloc (Nat.le_refl _) (.cells #[.int .i64 ((K.length : Int) - 1), .int .i64 ((K.length : Int) - 1)] 3)
                have hz2 := hz1.alloc (by simp) (.cells #[.int .i64 0, .int .i64 5] 3)
                have hz3 := hz2.alloc (by simp only [World.size_alloc]; omega) (.cells #[.slice (some ⟨wo.heap.size, 0, none⟩) 2 2, .slice (some ⟨wo.heap.size + 1, 0, none⟩) 2 2, .int .i64 3] 65)
                have hm3 := HM2.out.keep hz3
                have hwog := hm3.n2.2
                have hGo := HM2.out.n2.2
                obtain ⟨i6, j6, w6, hr6, hg6, ⟨its', hits', hnr'⟩, hfa6, hb6⟩ := grow_nears (lastNr K.length) HITS.out HNR.out HG.out.symm hm3 l3 (by omega) wo.heap.size (wo.heap.size + 1) (wo.heap.size + 2)
                  (heap_old (heap_old (heap_new rfl _) _) _) (heap_old (heap_new (by simp) _) _) (heap_new (by simp) _) (by omega) (by omega) (by simp [lastNr]) (by simp [lastNr])
                have HR6 := hide hr6
                have HG6 := hide hg6
                have HI6 := hide hits'
                have HN6 := hide hnr'
                have HF6 := hide hfa6
                have HB6 := hide ((hz3.mono (by omega : w3.heap.size ≤ wo.heap.size)).trans (hb6.mono hBN))
                obtain ⟨r0, r1, r2, r3, r4, r5⟩ := cells6 hg6
                have hf6 := free_at hg6 2
                have hsz6 := HB6.out.size
                have hGw6 := heap_lt hg6
                clear hz1 hz2 hz3 hm3 hr6 hg6 hits' hnr' hfa6 hb6 hwog hGo
                go_upto_region 22 with (at_builtin; refine wpList_run 24 _ w6 _ _ _ rfl (.tmp 81) (.tmp 89) rfl rfl rfl HR6.out ?_)
                clear HR6 r0 r1 r2 r3 r4 r5 hf6
                have HG7 := hide (show (w6.setCell ⟨G, 2, none⟩ (.slice i6 (P.nears.length + 1) j6)).heap[G]? = some (.cells #[.slice ia L.length ja, .slice ic K.length jc, .slice i6 (P.nears.length + 1) j6, .bool al, .slice iv P.drive.length jv, .slice iu P.code.length ju] 27 (0, 0)) from by rw [heap_set HG6.out]; rfl)
                have HK7 := hide (fun (u : TypeId) (hu : 27 ≠ u) => keepTy_at (i := 2) HG6.out hu (.slice i6 (P.nears.length + 1) j6))
                have HB7 := hide (below_set HB6.out (show w3.heap.size ≤ G by omega) (i := 2) (.slice i6 (P.nears.length + 1) j6))
                have hs7 : (w6.setCell ⟨G, 2, none⟩ (.slice i6 (P.nears.length + 1) j6)).heap.size = w6.heap.size := World.size_setCell _ _ _
                have hsz7 := HB7.out.size
                clear hs7 HB6
                generalize w6.setCell ⟨G, 2, none⟩ (.slice i6 (P.nears.length + 1) j6) = w7 at *
                obtain ⟨r0, r1, r2, r3, r4, r5⟩ := cells6 HG7.out
                have hf7 := free_at HG7.out 3
                go_upto_region 23 with (fail)
                clear r0 r1 r2 r3 r4 r5 hf7
                have HG8 := hide (show (w7.setCell ⟨G, 3, none⟩ (.bool false)).heap[G]? = some (.cells #[.slice ia L.length ja, .slice ic K.length jc, .slice i6 (P.nears.length + 1) j6, .bool false, .slice iv P.drive.length jv, .slice iu P.code.length ju] 27 (0, 0)) from by rw [heap_set HG7.out]; rfl)
                have HK8 := hide (fun (u : TypeId) (hu : 27 ≠ u) => (HK7.out u hu).trans (keepTy_at (i := 3) HG7.out hu (.bool false)))
                have HB8 := hide (below_set HB7.out (show w3.heap.size ≤ G by omega) (i := 3) (.bool false))
                have hsz8 := HB8.out.size
                clear HB7 HK7 HG7
                generalize w7.setCell ⟨G, 3, none⟩ (.bool false) = w8 at *
                have HG9 := hide (show (w8.setCell ⟨G, 4, none⟩ (.slice (some ⟨w8.heap.size, 0, none⟩) 1 1)).heap[G]? = some (.cells #[.slice ia L.length ja, .slice ic K.length jc, .slice i6 (P.nears.length + 1) j6, .bool false, .slice (some ⟨w8.heap.size, 0, none⟩) 1 1, .slice iu P.code.length ju] 27 (0, 0)) from by rw [heap_set HG8.out]; rfl)
                have HK9 := hide (fun (u : TypeId) (hu : 27 ≠ u) => (HK8.out u hu).trans (keepTy_at (i := 4) HG8.out hu (.slice (some ⟨w8.heap.size, 0, none⟩) 1 1)))
                have HB9 := hide (below_set HB8.out (show w3.heap.size ≤ G by omega) (i := 4) (.slice (some ⟨w8.heap.size, 0, none⟩) 1 1))
                have hcc : ∀ o, (w8.alloc o).cell? ⟨G, 4, none⟩ = some (.slice iv P.drive.length jv) := fun o => by rw [cell_at (heap_old HG8.out o)]; rfl
                have hff : ∀ o, (w8.alloc o).frozen? ⟨G, 4, none⟩ = false := fun o => free_at (heap_old HG8.out o) 4
                have hG8 := heap_lt HG8.out
                clear HB8 HK8 HG8
                go_wp2_with fail
                go_meet
                have hq1 := more_pos HA.out zs ts (by rw [HLL.out, HKK.out]; exact hK1) d HD0.out.1 (by rw [HLL.out, HKK.out]; exact HD0.out.2)
                have hq2 := small_more HLs.out HA.out zs ts HLT.out [lastNr (moreC (moreA P.avgs zs).length P.cur ts).length] (by simp) (by intro n hn; simp at hn; subst hn; simp [lastNr]) false [d] (by simp)
                rw [HLL.out, HKK.out] at hq1 hq2
                have hs9 : (w8.setCell ⟨G, 4, none⟩ (.slice (some ⟨w8.heap.size, 0, none⟩) 1 1)).heap.size = w8.heap.size := World.size_setCell _ _ _
                have hb9 := (Below.refl (w8.setCell ⟨G, 4, none⟩ (.slice (some ⟨w8.heap.size, 0, none⟩) 1 1)).heap.size (w8.setCell ⟨G, 4, none⟩ (.slice (some ⟨w8.heap.size, 0, none⟩) 1 1))).alloc (Nat.le_refl _) (.cells #[.int .i64 d] 3)
                have hd10 := heap_new (w := w8.setCell ⟨G, 4, none⟩ (.slice (some ⟨w8.heap.size, 0, none⟩) 1 1)) hs9.symm (.cells #[.int .i64 d] 3)
                have hg10 := (hb9.block G (by rw [hs9]; exact hG8)).trans HG9.out
                have hk10 := fun (u : TypeId) (hu : 27 ≠ u) => (HK9.out u hu).trans (keepTy_below hb9 u)
                have hb10 := HB9.out.trans (hb9.mono (by rw [hs9]; omega))
                have hl6 : (P.nears ++ [lastNr K.length]).length = P.nears.length + 1 := by rw [List.length_append, List.length_singleton]
                refine ⟨ia, ja, ic, jc, i6, j6, some ⟨w8.heap.size, 0, none⟩, 1, iu, ju, ⟨L, K, P.nears ++ [lastNr K.length], false, [d], P.code⟩, ⟨?_, fun w' hk => ⟨?_, ?_, ?_, ?_, ?_⟩, hq1, ans_none_all hq1, hq2⟩, hb10⟩
                · simp only [hl6, List.length_singleton]; exact hg10
                · exact own_ints (row_keepTy (HF6.out.1 0 _ rfl) ((hk10 3 (by decide)).trans (hk 3 (by decide))))
                · exact own_leafs (row_keepTy (HF6.out.1 1 _ rfl) ((hk10 63 (by decide)).trans (hk 63 (by decide))))
                · have hn10 := nrits_nrs (nrits_keepTy HN6.out ((hk10 65 (by decide)).trans (hk 65 (by decide))) ((hk10 3 (by decide)).trans (hk 3 (by decide))))
                  rw [HI6.out] at hn10
                  simp only [hl6]; exact hn10
                · exact ints_lit1 (hk 3 (by decide) _ _ _ hd10)
                · exact src_own (row_keepTy (HF6.out.1 3 _ rfl) ((hk10 5 (by decide)).trans (hk 5 (by decide)))) HCO.out
              · have hK0 : K.length = 0 := by omega
                have HQ := hide (show GrQ wo G H ia ja ic jc vni vnj iv jv iu ju ⟨L, K, P.nears, al, P.drive, P.code⟩ from by
                  have h1 := more_zero HA.out zs ts (by rw [HLL.out, HKK.out]; exact hK0)
                  rw [HLL.out, HKK.out, HAL.out] at h1
                  have h2 := small_more HLs.out HA.out zs ts HLT.out [] (by simp) (by simp) al P.drive HLs.out.drive
                  rw [HLL.out, HKK.out, List.append_nil] at h2
                  exact ⟨HM2.out.g, HM2.out.prgAt HITS.out HNR.out HG.out HCO.out, h1, ans_none_all h1, h2⟩)
                clear hK0
                go_wp2_with fail
                go_meet
                exact ⟨_, _, _, _, _, _, _, _, _, _, _, HQ.out, Below.refl _ _⟩
            case rest =>
              obtain ⟨ia, ja, ic, jc, iN, jN, iD, jD, iu, ju, Q, hgq, hbq⟩ := hcut
              have HGQ := hide hgq
              have hsz := hbq.size
              have HBq := hide (HBr.out.trans (hbq.mono hs3))
              have HXq := hide ((hbq.block X hx3).trans HXr.out)
              have hG3 : w3.heap.size ≤ G := by omega
              have hsq := HBq.out.size
              have hGw := heap_lt hgq.g
              clear hgq hbq q0 q1 q2 q3 q4 q5 HM2
              obtain ⟨q0, q1, q2, q3, q4, q5⟩ := cells6 HGQ.out.g
              generalize hwc : wc = w6 at *
              clear hwc
              go_wp2_with fail
              refine (check_any w6 (tb.out _ HBq.out) E (er.out 0 (by decide) _ HBq.out) (er.out 1 (by decide) _ HBq.out) (er.out 2 (by decide) _ HBq.out) (by omega) ia ic iN iD iu ja jc jN jD ju Q.all Q rfl (HGQ.out.at_ _ (fun u _ => keepTy_refl _ u)) HGQ.out.small).mono ?_
              rintro e w7 ⟨hck, hb7⟩
              rw [CkOut, HGQ.out.ans1] at hck
              subst hck
              have hq8 := (Below.refl w7.heap.size w7).alloc (Nat.le_refl _) (.cells #[.int .i64 H.length, .int .i64 (mx H : Nat)] 31)
              have hb78 := hb7.trans (hq8.mono hb7.size)
              have HG8 := hide ((hb78.block G hGw).trans HGQ.out.g)
              have HP8 := hide (fun (u : TypeId) (_ : 27 ≠ u) => keepTy_below hb78 u)
              have HX8 := hide ((hb78.block X (by omega)).trans HXq.out)
              have HY8 := hide (heap_new (w := w7) rfl (.cells #[.int .i64 H.length, .int .i64 (mx H : Nat)] 31))
              have HB8 := hide (HBq.out.trans (hb78.mono hsq))
              clear hb7 hq8 hb78 q0 q1 q2 q3 q4 q5
              go_upto_region 25 with (fail)
              generalize w7.alloc (.cells #[.int .i64 H.length, .int .i64 (mx H : Nat)] 31) = w8 at *
              generalize w7.heap.size = Y at *
              have hf4 := free_at HG8.out 4
              obtain ⟨q0, q1, q2, q3, q4, q5⟩ := cells6 HG8.out
              go_upto_region 26 with (fail)
              clear q0 q1 q2 q3 q4 q5 hf4
              have HG9 := hide (show (w8.setCell ⟨G, 4, none⟩ (.slice none 0 0)).heap[G]? = some (.cells #[.slice ia Q.avgs.length ja, .slice ic Q.cur.length jc, .slice iN Q.nears.length jN, .bool Q.all, .slice none 0 0, .slice iu Q.code.length ju] 27 (0, 0)) from by rw [heap_set HG8.out]; rfl)
              have HB9 := hide (below_set HB8.out (show w.heap.size ≤ G by omega) (i := 4) (.slice none 0 0))
              have HP9 := hide (fun (u : TypeId) (hu : 27 ≠ u) => (HP8.out u hu).trans (keepTy_at (i := 4) HG8.out hu (.slice none 0 0)))
              have HX9 := hide (keepTy_at (i := 4) HG8.out (show (27 : TypeId) ≠ 31 by decide) (.slice none 0 0) _ _ _ HX8.out)
              have HY9 := hide (keepTy_at (i := 4) HG8.out (show (27 : TypeId) ≠ 31 by decide) (.slice none 0 0) _ _ _ HY8.out)
              clear HB8 HP8 HX8 HY8 HG8
              generalize w8.setCell ⟨G, 4, none⟩ (.slice none 0 0) = w9 at *
              obtain ⟨q0, q1, q2, q3, q4, q5⟩ := cells6 HG9.out
              have hf3 := free_at HG9.out 3
              go_upto_region 27 with (fail)
              clear q0 q1 q2 q3 q4 q5 hf3
              have HG10 := hide (show (w9.setCell ⟨G, 3, none⟩ (.bool true)).heap[G]? = some (.cells #[.slice ia Q.avgs.length ja, .slice ic Q.cur.length jc, .slice iN Q.nears.length jN, .bool true, .slice none 0 0, .slice iu Q.code.length ju] 27 (0, 0)) from by rw [heap_set HG9.out]; rfl)
              have HB10 := hide (below_set HB9.out (show w.heap.size ≤ G by omega) (i := 3) (.bool true))
              have HP10 := hide (fun (u : TypeId) (hu : 27 ≠ u) => (HP9.out u hu).trans (keepTy_at (i := 3) HG9.out hu (.bool true)))
              have HX10 := hide (keepTy_at (i := 3) HG9.out (show (27 : TypeId) ≠ 31 by decide) (.bool true) _ _ _ HX9.out)
              have HY10 := hide (keepTy_at (i := 3) HG9.out (show (27 : TypeId) ≠ 31 by decide) (.bool true) _ _ _ HY9.out)
              clear HB9 HP9 HX9 HY9 HG9
              generalize w9.setCell ⟨G, 3, none⟩ (.bool true) = w10 at *
              have hs10 := HB10.out.size
              obtain ⟨q0, q1, q2, q3, q4, q5⟩ := cells6 HG10.out
              go_wp2_with fail
              refine (check_any w10 (tb.out _ HB10.out) E (er.out 0 (by decide) _ HB10.out) (er.out 1 (by decide) _ HB10.out) (er.out 2 (by decide) _ HB10.out) (by omega) ia ic iN none iu ja jc jN 0 ju true { Q with all := true, drive := [] } rfl (prgat_nil (HGQ.out.at_ _ HP10.out)) (little_nil HGQ.out.small)).mono ?_
              rintro e w11 ⟨hck, hb11⟩
              rw [CkOut, HGQ.out.ans2] at hck
              subst hck
              have hq12 := (Below.refl w11.heap.size w11).alloc (Nat.le_refl _) (.cells #[.int .i64 H.length, .int .i64 (mx H : Nat)] 31)
              have hb12 := hb11.trans (hq12.mono hb11.size)
              obtain ⟨x0, x1⟩ := cells2 (keepTy_below hb12 31 _ _ _ HX10.out)
              obtain ⟨y0, y1⟩ := cells2 (keepTy_below hb12 31 _ _ _ HY10.out)
              obtain ⟨z0, z1⟩ := cells2 (heap_new (w := w11) rfl (.cells #[.int .i64 H.length, .int .i64 (mx H : Nat)] 31))
              have HB12 := hide (HB10.out.trans (hb12.mono hs10))
              clear hb11 hq12 hb12 q0 q1 q2 q3 q4 q5
              go_wp2_with fail
              go_ret
              exact ⟨rfl, HB12.out⟩
end Go.Proofs.YtbimpoabiafdaaaDoor
