/- heights: the walk -/
import Derived.Test.YtbimpoabiafdaaaDoorHp
import Derived.Deep.RegionWith
namespace Go.Proofs.YtbimpoabiafdaaaDoor
open Go.RowKit Vf
set_option maxRecDepth 100000 in
set_option maxHeartbeats 8000000 in
theorem heights_any (w : World) (T : TabAt w) (E : Nat → Addr) (hE0 : ErrAt w 0 (E 0)) (hE1 : ErrAt w 1 (E 1)) (hE2 : ErrAt w 2 (E 2)) (hg : 25 ≤ w.heap.size) (aa ac an ad ab : Option Addr) (ca cc cn cd cb : Nat) (al : Bool) (P : Prg) (hal : P.all = al)
    (hP : PrgAt w (.slice aa P.avgs.length ca) (.slice ac P.cur.length cc) (.slice an P.nears.length cn) (.slice ad P.drive.length cd) (.slice ab P.code.length cb) P) (hL : Little P 1099511627776) :
    Calls Tryd.prog 23 #[.agg #[.slice aa P.avgs.length ca, .slice ac P.cur.length cc, .slice an P.nears.length cn, .bool al, .slice ad P.drive.length cd, .slice ab P.code.length cb]] w fun e w' => HtOut P w.heap.size e w' ∧ Below w.heap.size w w' := by
  have hq1 := (Below.refl w.heap.size w).alloc (Nat.le_refl _) (.cells #[.slice aa P.avgs.length ca, .slice ac P.cur.length cc, .slice an P.nears.length cn, .bool al, .slice ad P.drive.length cd, .slice ab P.code.length cb] 27)
  have HP := hide (hP.keep hq1)
  have HB := hide hq1
  have HAL := hide hal
  have HT := hide T
  have HE0 := hide hE0
  have HE1 := hide hE1
  have HE2 := hide hE2
  have HL := hide hL
  have hh := heap_new (w := w) rfl (.cells #[.slice aa P.avgs.length ca, .slice ac P.cur.length cc, .slice an P.nears.length cn, .bool al, .slice ad P.drive.length cd, .slice ab P.code.length cb] 27)
  obtain ⟨p0', p1', p2', p3', p4', p5'⟩ := cells6 hh
  have HH := hide hh
  obtain ⟨i0, hi, hz0, hz1, hz2⟩ := info_parts info3
  have l5 := hL.code
  have l1 := hL.avgs
  have l2 := hL.cur
  have l3 := hL.nears
  clear hq1 hP hal hh T hE0 hE1 hE2 hL
  go_enter Tryd.func23, Tryd.ntmps23
  go_wp2_with fail
  generalize w.alloc (.cells #[.slice aa P.avgs.length ca, .slice ac P.cur.length cc, .slice an P.nears.length cn, .bool al, .slice ad P.drive.length cd, .slice ab P.code.length cb] 27) = W at *
  have hsW := HB.out.size
  refine (decode_any W (tab_below HT.out HB.out (by omega)) E (err_below HE0.out HB.out (by omega)) (err_below HE1.out HB.out (by omega)) (err_below HE2.out HB.out (by omega)) (by omega) _ P.code HP.out.code (by omega)).mono ?_
  rintro e w1 ⟨hout, hb1⟩
  have HB1 := hide (HB.out.trans (hb1.mono hsW))
  have hs1 := HB1.out.size
  have HP1 := hide (HP.out.keep hb1)
  have HH1 := hide (keepTy_below hb1 27 _ _ _ HH.out)
  clear hb1 p0' p1' p2' p3' p4' p5'
  obtain ⟨p0, p1, p2, p3, p4, p5⟩ := cells6 HH1.out
  cases hd : dc P.code with
  | none =>
    rw [DecOut, hd] at hout
    subst hout
    have HANS := hide (ans_none (P := P) (fun c hc _ => by rw [hd] at hc; cases hc))
    clear hd
    go_wp2_with fail
    go_ret2
    exact ⟨by rw [HtOut, HANS.out] <;> rfl, HB1.out⟩
  | some c =>
    rw [DecOut, hd] at hout
    obtain ⟨vc, rfl, ho⟩ := hout
    have HD := hide hd
    have HFIT := hide (dc_fit hd).1
    have hcl := (dc_fit hd).2
    obtain ⟨aco, cco, rfl⟩ := inss_form (inown_inss ho)
    have HI1 := hide ho
    clear hd ho
    by_cases hn0 : c.length = 0
    · have HANS := hide (ans_none (P := P) (fun c' hc _ => by
        rintro ⟨H, hg⟩
        rw [HD.out] at hc
        obtain rfl := Option.some.inj hc
        exact absurd hg.2.1 (by omega)))
      have hn1 : ((c.length : Int) == 0) = true := by simp; exact List.eq_nil_of_length_eq_zero hn0
      have hnil : c = [] := List.eq_nil_of_length_eq_zero hn0
      clear hn0 hn1
      subst hnil
      go_wp2_with fail
      go_ret2
      exact ⟨by rw [HtOut, HANS.out] <;> rfl, HB1.out⟩
    · have hn1 : ((c.length : Int) == 0) = false := by simp; intro h; exact hn0 (by rw [h]; rfl)
      have hn2 : ¬ c = [] := fun h => hn0 (by rw [h]; rfl)
      have HTB := hide (tables_any w1 aa ac an ad ab ca cc cn cd cb al P HAL.out HP1.out HL.out)
      go_wp2_with fail
      refine HTB.out.mono ?_
      rintro e w2 ⟨⟨b, rfl, hbt⟩, hb2⟩
      have HBT := hide hbt
      have HB2 := hide (HB1.out.trans (hb2.mono hs1))
      have hs2 := HB2.out.size
      have HP2 := hide (HP1.out.keep hb2)
      have HI2 := hide (inown_keep HI1.out hb2)
      have HH2 := hide (keepTy_below hb2 27 _ _ _ HH1.out)
      clear hb2 hbt p0 p1 p2 p3 p4 p5 HTB
      cases b with
      | false =>
        have HANS := hide (ans_none (P := P) (fun c' hc ht => by have := HBT.out.2 ht; simp at this))
        go_wp2_with fail
        go_ret2
        exact ⟨by rw [HtOut, HANS.out] <;> rfl, HB2.out⟩
      | true =>
        have HTAB := hide (HBT.out.1 (by simp))
        have hnpos : 0 < c.length := by omega
        have HTU := hide (Tryd.underlying22)
        go_wp2_with (at_make; refine wpList_make_full _ rfl (.tmp 34) (.tmp 34) 22 rfl w.heap.size 3 i0 (.int .i64 0) 1 Tryd.underlying22 hi hz0 hz1 _ _ _ _ c.length rfl rfl rfl rfl ?_ ?_ hs2 ?_)
        case refine_1 => rw [hz2]; omega
        case refine_2 => unfold maxLen; omega
        intro w3 hown hg
        have hrow := row_full' hown
        rw [fill_start] at hrow
        have HB3 := hide (HB2.out.grown hg hs2 (fun k hk => by cases hk))
        have hgz := hg.size
        have hg' : Below w2.heap.size w2 w3 := ⟨hg.os, hg.tape, hg.output, hg.size, fun k hk => hg.block k hk (fun e => by cases e)⟩
        have hq4 := (Below.refl w3.heap.size w3).alloc (Nat.le_refl _) (.cells #[.slice (some ⟨w2.heap.size, 0, none⟩) c.length c.length] 22)
        have hg4 : Below w2.heap.size w2 (w3.alloc (.cells #[.slice (some ⟨w2.heap.size, 0, none⟩) c.length c.length] 22)) := hg'.trans (hq4.mono hgz)
        have HROW := hide (keepTy_below hq4 3 _ _ _ hrow)
        have HBOX := hide (heap_new (w := w3) rfl (.cells #[.slice (some ⟨w2.heap.size, 0, none⟩) c.length c.length] 22))
        have HI4 := hide (inown_keep HI2.out hg4)
        have HH4 := hide (keepTy_below hg4 27 _ _ _ HH2.out)
        have HB4 := hide (HB2.out.trans (hg4.mono hs2))
        clear hrow hown hg hg' hq4 hg4 HB3
        go_wp2_with fail
        generalize w3.alloc (.cells #[.slice (some ⟨w2.heap.size, 0, none⟩) c.length c.length] 22) = w4 at HROW HBOX HI4 HH4 HB4 ⊢
        have hbx4 : w4.cell? ⟨w3.heap.size, 0, none⟩ = some (.slice (some ⟨w2.heap.size, 0, none⟩) c.length c.length) := by rw [cell_at HBOX.out]; rfl
        go_wp2_with fail
        go_loopw [38] (fun s wr => ∃ j : Nat, j ≤ c.length ∧ s = .int .i64 j ∧ wr.heap[w2.heap.size]? = some (.cells (fillL c.length j).toArray 3 (0, 0)) ∧ (∀ t, 3 ≠ t → KeepTy w4 wr t) ∧ Below w.heap.size w wr) (fun s _ => c.length - (intOf s).toNat)
        case atStart => exact ⟨0, by omega, rfl, HROW.out, fun t _ => keepTy_refl w4 t, HB4.out⟩
        case round =>
          obtain ⟨j, hj, rfl, hrow, hk, hb⟩ := hrel
          have HBr := hide hb
          have HKr := hide hk
          have hbx : wr.cell? ⟨w3.heap.size, 0, none⟩ = some (.slice (some ⟨w2.heap.size, 0, none⟩) c.length c.length) := by rw [cell_at (hk 22 (by decide) _ _ _ HBOX.out)]; rfl
          by_cases hlt : j < c.length
          · have hf := free_at hrow j
            have hjc : wr.cell? ⟨w2.heap.size, j, none⟩ = some (.int .i64 0) := by rw [cell_at hrow]; simp [fillL, hlt]
            have hset := heap_set (i := j) hrow (.int .i64 (-1))
            rw [fill_set _ _ hlt] at hset
            have HSET := hide hset
            have HKS := hide (fun (t : TypeId) (ht : 3 ≠ t) => (hk t ht).trans (keepTy_at (i := j) hrow ht (.int .i64 (-1))))
            have HBS := hide (below_set (i := j) hb hs2 (.int .i64 (-1)))
            have hj1 : (j : Int) < (c.length : Int) := by omega
            clear hrow hk hb hset
            go_wp2_with fail
            exact ⟨⟨j + 1, by omega, by simp, HSET.out, HKS.out, HBS.out⟩, by simp [intOf]; omega⟩
          · obtain rfl : j = c.length := by omega
            have hf := free_at hrow 0
            have hjc : wr.cell? ⟨w2.heap.size, 0, none⟩ = some (.int .i64 (-1)) := by rw [cell_at hrow]; simp [fillL, hnpos]
            have hset := heap_set (i := 0) hrow (.int .i64 0)
            rw [fill_end _ hnpos] at hset
            have hkt := fun (t : TypeId) (ht : 3 ≠ t) => (hk t ht).trans (keepTy_at (i := 0) hrow ht (.int .i64 0))
            have HLD0 := hide (show Laid (wr.setCell ⟨w2.heap.size, 0, none⟩ (.int .i64 0)) w3.heap.size w2.heap.size (at0 c.length) from ⟨by rw [at0_len hnpos]; exact hkt 22 (by decide) _ _ _ HBOX.out, hset⟩)
            have HBX0 := hide (hkt 27 (by decide) _ _ _ HH4.out)
            have HIN0 := hide (show InOwn (wr.setCell ⟨w2.heap.size, 0, none⟩ (.int .i64 0)) _ _ c from row_keepTy HI4.out (hkt 56 (by decide)))
            have HB0 := hide (below_set (i := 0) hb hs2 (.int .i64 0))
            clear hrow hk hb hset hkt HKr HBr
            go_wp2_with fail
            generalize wr.setCell ⟨w2.heap.size, 0, none⟩ (.int .i64 0) = w9 at HLD0 HBX0 HIN0 HB0 ⊢
            clear hf hjc hbx
            go_loopw [50, 8] (fun s m wr => ∃ (i : Nat) (at_ : At), s = .int .i64 i ∧ m = .int .i64 (mxTo at_ i : Nat) ∧ Inv (sz P) c at_ i ∧ Laid wr w3.heap.size w2.heap.size at_ ∧ (∀ k h : Nat, at_[k]? = some (some h) → h ≤ i) ∧ wr.heap[w.heap.size]? = some (.cells #[.slice aa P.avgs.length ca, .slice ac P.cur.length cc, .slice an P.nears.length cn, .bool al, .slice ad P.drive.length cd, .slice ab P.code.length cb] 27 (0, 0)) ∧ InOwn wr W.heap.size (.slice aco c.length cco) c ∧ Below w.heap.size w wr) (fun s _ _ => c.length - (intOf s).toNat)
            case atStart =>
              refine ⟨0, at0 c.length, rfl, ?_, inv_start (sz P) c hnpos, HLD0.out, fun k h hk => ?_, HBX0.out, HIN0.out, HB0.out⟩
              · simp [mxTo, at0, mx]
              · match k, hk with
                | 0, hk => simp [at0] at hk; omega
                | k + 1, hk =>
                  simp only [at0, List.getElem?_cons_succ, List.getElem?_replicate] at hk
                  split at hk <;> simp at hk
            case round =>
              obtain ⟨i, at_, rfl, rfl, hinv, hlaid, hbound, hbx, hin, hb⟩ := hrel
              have hi : i < c.length := hinv.lt
              have hil : i < at_.length := by rw [hinv.len]; exact hi
              obtain ⟨x, hx⟩ : ∃ x, c[i]? = some x := ⟨_, List.getElem?_eq_getElem hi⟩
              obtain ⟨q, hq⟩ := hinv.now
              have hqi := hbound i q hq
              have HLEN := hide hinv.len
              have HBD := hide hbound
              have HX := hide hx
              have HQ := hide hq
              have hfx := HFIT.out x (List.mem_of_getElem? hx)
              obtain ⟨adc, e, c0, c1, c2⟩ := inss_get (inown_inss hin) hx
              subst e
              obtain ⟨op, OA, OB⟩ := x
              simp only at c0 c1 c2
              have HFX := hide hfx
              have hop : op < 17 := hfx.1
              have hOA : OA < 18446744073709551616 := hfx.2.1
              have hq1 := (Below.refl wr.heap.size wr).alloc (Nat.le_refl _) (.cells #[.int .i64 op, .int .u64 OA, .int .u64 OB] 56)
              have hX5 := heap_new (w := wr) rfl (.cells #[.int .i64 op, .int .u64 OA, .int .u64 OB] 56)
              have HLD := hide (laid_keep hlaid hq1)
              have HBX := hide (keepTy_below hq1 27 _ _ _ hbx)
              have HIN := hide (inown_keep hin hq1)
              have hsr := hb.size
              have HB5 := hide (hb.trans (hq1.mono hsr))
              have HI := hide hinv
              have hwn : IntKind.i64.wrap ((c.length : Int) - 1) = (c.length : Int) - 1 := by rw [IntKind.wrap_i64]; omega
              have hin1 : (i : Int) < (c.length : Int) := by omega
              clear hinv hlaid hbound hbx hin hb hx hq hfx hq1
              by_cases hlast : i + 1 = c.length
              · have e1 : ((i : Int) == (c.length : Int) - 1) = true := by simp; omega
                have HLAST := hide hlast
                clear hlast
                go_upto_region 17 with (fail)
                have HX5 := hide hX5
                clear hX5 c0 c1 c2
                generalize wr.alloc (.cells #[.int .i64 op, .int .u64 OA, .int .u64 OB] 56) = w5 at *
                generalize wr.heap.size = X at HX5 ⊢
                have hs5 := HB5.out.size
                obtain ⟨x0, x1, x2⟩ := cells3 HX5.out
                have hbx : w5.cell? ⟨w3.heap.size, 0, none⟩ = some (.slice (some ⟨w2.heap.size, 0, none⟩) at_.length at_.length) := by rw [cell_at HLD.out.box]; rfl
                have hci : w5.cell? ⟨w2.heap.size, i, none⟩ = some (.int .i64 q) := by rw [cell_at HLD.out.row]; exact ats_get HQ.out
                have HEF := hide (show Calls Tryd.prog 38 #[.agg #[.int .i64 op, .int .u64 OA, .int .u64 OB], .int .i64 q] w5.drew _ from effect_any w5.drew (op, OA, OB) HFX.out q (by omega))
                go_cut [13, 14] (fun s13 s14 wx => EffCut (op, OA, OB) q w5 s13 s14 wx)
                case first =>
                  go_region_with
                    (first
                      | (go_at_call 38
                         refine HEF.out.mono ?_
                         rintro e w6 ⟨⟨z, b, rfl, hz⟩, hb6⟩))
                  all_goals (go_wp2_with fail; go_meet; exact ⟨⟨z, b, rfl, rfl, hz⟩, (Below.refl w5.heap.size w5).drew.trans hb6⟩)
                case rest =>
                obtain ⟨⟨z, b, rfl, rfl, hz⟩, hb6'⟩ := hcut
                have HB6 := hide (HB5.out.trans (hb6'.mono hs5))
                have hs6 := HB6.out.size
                have HX6 := hide (keepTy_below hb6' 56 _ _ _ HX5.out)
                have HLD6 := hide (laid_keep HLD.out hb6')
                have HBX6 := hide (keepTy_below hb6' 27 _ _ _ HBX.out)
                have HIN6 := hide (inown_keep HIN.out hb6')
                clear hb6' HEF HX5 HLD HBX HIN HB5 x0 x1 x2 hbx hci
                cases heff : eff (op, OA, OB) q with
                | none =>
                  rw [heff] at hz
                  subst hz
                  have HBAD := hide (bad_op HI.out HX.out HQ.out (.inr (.inl heff)))
                  have HANS := hide (ans_none (P := P) (fun c' hc _ => by rw [HD.out] at hc; obtain rfl := Option.some.inj hc; exact HBAD.out))
                  go_wp2_with fail
                  go_ret2
                  exact ⟨by rw [HtOut, HANS.out] <;> rfl, HB6.out⟩
                | some h' =>
                  rw [heff] at hz
                  obtain ⟨rfl, rfl⟩ := hz
                  have HEFF := hide heff
                  clear heff
                  obtain ⟨x0, x1, x2⟩ := cells3 HX6.out
                  obtain ⟨p0, p1, p2, p3, p4, p5⟩ := cells6 HBX6.out
                  by_cases h0 : op = 0
                  · have H0 := hide h0
                    have h0i : ((op : Int) == 0) = true := by simp; omega
                    have h0j : ((op : Int) = 0) = True := by simp; omega
                    clear h0
                    have HOP := hide (show Calls Tryd.prog 39 #[.agg #[.slice aa P.avgs.length ca, .slice ac P.cur.length cc, .slice an P.nears.length cn, .bool al, .slice ad P.drive.length cd, .slice ab P.code.length cb], .agg #[.int .i64 op, .int .u64 OA, .int .u64 OB]] wc _ from operands_any wc aa ac an ad ab P.avgs.length P.cur.length P.nears.length P.drive.length P.code.length ca cc cn cd cb al l1 l2 l3 (op, OA, OB) HFX.out)
                    go_wp2_with fail
                    refine HOP.out.mono ?_
                    rintro e w7 ⟨rfl, hb7⟩
                    have HB7 := hide (HB6.out.trans (hb7.mono hs6))
                    have hs7 := HB7.out.size
                    have HX7 := hide (keepTy_below hb7 56 _ _ _ HX6.out)
                    have HLD7 := hide (laid_keep HLD6.out hb7)
                    have HBX7 := hide (keepTy_below hb7 27 _ _ _ HBX6.out)
                    have HIN7 := hide (inown_keep HIN6.out hb7)
                    clear hb7 HOP HX6 HLD6 HBX6 HIN6 HB6 x0 x1 x2 p0 p1 p2 p3 p4 p5
                    cases hopn : opnd (P.avgs.length, P.cur.length, P.nears.length) (op, OA, OB) with
                    | false =>
                      have HBAD := hide (bad_op (T := sz P) HI.out HX.out HQ.out (.inl hopn))
                      have HANS := hide (ans_none (P := P) (fun c' hc _ => by rw [HD.out] at hc; obtain rfl := Option.some.inj hc; exact HBAD.out))
                      go_wp2_with fail
                      go_ret2
                      exact ⟨by rw [HtOut, HANS.out] <;> rfl, HB7.out⟩
                    | true =>
                      have HOPN := hide (show opnd (sz P) (op, OA, OB) = true from hopn)
                      have HH' := hide (eff_lt HEFF.out hopn)
                      clear hopn
                      have hbx : w7.cell? ⟨w3.heap.size, 0, none⟩ = some (.slice (some ⟨w2.heap.size, 0, none⟩) at_.length at_.length) := by rw [cell_at HLD7.out.box]; rfl
                      have hci : w7.cell? ⟨w2.heap.size, i, none⟩ = some (.int .i64 q) := by rw [cell_at HLD7.out.row]; exact ats_get HQ.out
                      obtain ⟨x0, x1, x2⟩ := cells3 HX7.out
                      obtain ⟨H, hH, hgood⟩ := go_end HI.out HX.out HQ.out HEFF.out HOPN.out H0.out HLAST.out
                      have HANS := hide (ans_some HD.out HTAB.out hgood)
                      have hHL := hgood.1
                      have hlen1 : at_.length = H.length := by rw [hH, List.length_map]
                      have HMX := hide (show mxTo at_ i = mx H by rw [hH]; exact mxTo_end (by have := HLAST.out; omega))
                      have HROWE := hide (show w7.heap[w2.heap.size]? = some (.cells (nats H).toArray 3 (0, 0)) from by have := HLD7.out.row; rw [hH, ats_some] at this; exact this)
                      have hqm := mxTo_ge HQ.out
                      have heq : h' = q := by
                        have := HEFF.out
                        unfold eff at this
                        rw [if_pos H0.out] at this
                        split at this
                        · exact (Option.some.inj this).symm
                        · cases this
                      have HLEN1 := hide hlen1
                      subst heq
                      clear hH hgood hHL hlen1
                      have m1 : ¬ ((mxTo at_ i : Nat) : Int) < (h' : Int) := by omega
                      have m2 : ¬ mxTo at_ i < h' := by omega
                      go_wp2_with fail
                      go_ret2
                      refine ⟨?_, HB7.out⟩
                      rw [HtOut, HANS.out]
                      exact ⟨_, hs2, by rw [← HMX.out, ← HLEN1.out] <;> rfl, HROWE.out⟩
                  · have h0i : ((op : Int) == 0) = false := by simp; omega
                    have h0j : ((op : Int) = 0) = False := by simp; omega
                    have HBAD := hide (bad_op HI.out HX.out HQ.out (.inr (.inr (by have := HLAST.out; exact fun h => h0 (h.2 this)))))
                    have HANS := hide (ans_none (P := P) (fun c' hc _ => by rw [HD.out] at hc; obtain rfl := Option.some.inj hc; exact HBAD.out))
                    go_wp2_with fail
                    go_ret2
                    exact ⟨by rw [HtOut, HANS.out] <;> rfl, HB6.out⟩
              · have e1 : ((i : Int) == (c.length : Int) - 1) = false := by simp; omega
                have HLAST := hide hlast
                have hnl : i + 1 < c.length := by omega
                clear hlast
                go_upto_region 17 with (fail)
                have HX5 := hide hX5
                clear hX5 c0 c1 c2
                generalize wr.alloc (.cells #[.int .i64 op, .int .u64 OA, .int .u64 OB] 56) = w5 at *
                generalize wr.heap.size = X at HX5 ⊢
                have hs5 := HB5.out.size
                obtain ⟨x0, x1, x2⟩ := cells3 HX5.out
                have hbx : w5.cell? ⟨w3.heap.size, 0, none⟩ = some (.slice (some ⟨w2.heap.size, 0, none⟩) at_.length at_.length) := by rw [cell_at HLD.out.box]; rfl
                have hci : w5.cell? ⟨w2.heap.size, i, none⟩ = some (.int .i64 q) := by rw [cell_at HLD.out.row]; exact ats_get HQ.out
                have HEF := hide (show Calls Tryd.prog 38 #[.agg #[.int .i64 op, .int .u64 OA, .int .u64 OB], .int .i64 q] w5.drew _ from effect_any w5.drew (op, OA, OB) HFX.out q (by omega))
                go_cut [13, 14] (fun s13 s14 wx => EffCut (op, OA, OB) q w5 s13 s14 wx)
                case first =>
                  go_region_with
                    (first
                      | (go_at_call 38
                         refine HEF.out.mono ?_
                         rintro e w6 ⟨⟨z, b, rfl, hz⟩, hb6⟩))
                  all_goals (go_wp2_with fail; go_meet; exact ⟨⟨z, b, rfl, rfl, hz⟩, (Below.refl w5.heap.size w5).drew.trans hb6⟩)
                case rest =>
                obtain ⟨⟨z, b, rfl, rfl, hz⟩, hb6'⟩ := hcut
                have HB6 := hide (HB5.out.trans (hb6'.mono hs5))
                have hs6 := HB6.out.size
                have HX6 := hide (keepTy_below hb6' 56 _ _ _ HX5.out)
                have HLD6 := hide (laid_keep HLD.out hb6')
                have HBX6 := hide (keepTy_below hb6' 27 _ _ _ HBX.out)
                have HIN6 := hide (inown_keep HIN.out hb6')
                clear hb6' HEF HX5 HLD HBX HIN HB5 x0 x1 x2 hbx hci
                cases heff : eff (op, OA, OB) q with
                | none =>
                  rw [heff] at hz
                  subst hz
                  have HBAD := hide (bad_op HI.out HX.out HQ.out (.inr (.inl heff)))
                  have HANS := hide (ans_none (P := P) (fun c' hc _ => by rw [HD.out] at hc; obtain rfl := Option.some.inj hc; exact HBAD.out))
                  go_wp2_with fail
                  go_ret2
                  exact ⟨by rw [HtOut, HANS.out] <;> rfl, HB6.out⟩
                | some h' =>
                  rw [heff] at hz
                  obtain ⟨rfl, rfl⟩ := hz
                  have HEFF := hide heff
                  clear heff
                  obtain ⟨x0, x1, x2⟩ := cells3 HX6.out
                  obtain ⟨p0, p1, p2, p3, p4, p5⟩ := cells6 HBX6.out
                  by_cases h0 : op = 0
                  · have h0i : ((op : Int) == 0) = true := by simp; omega
                    have h0j : ((op : Int) = 0) = True := by simp; omega
                    have HBAD := hide (bad_op HI.out HX.out HQ.out (.inr (.inr (by have := HLAST.out; exact fun h => this (h.1 h0)))))
                    have HANS := hide (ans_none (P := P) (fun c' hc _ => by rw [HD.out] at hc; obtain rfl := Option.some.inj hc; exact HBAD.out))
                    go_wp2_with fail
                    go_ret2
                    exact ⟨by rw [HtOut, HANS.out] <;> rfl, HB6.out⟩
                  · have H0 := hide h0
                    have h0i : ((op : Int) == 0) = false := by simp; omega
                    have h0j : ((op : Int) = 0) = False := by simp; omega
                    clear h0
                    have HOP := hide (show Calls Tryd.prog 39 #[.agg #[.slice aa P.avgs.length ca, .slice ac P.cur.length cc, .slice an P.nears.length cn, .bool al, .slice ad P.drive.length cd, .slice ab P.code.length cb], .agg #[.int .i64 op, .int .u64 OA, .int .u64 OB]] wc _ from operands_any wc aa ac an ad ab P.avgs.length P.cur.length P.nears.length P.drive.length P.code.length ca cc cn cd cb al l1 l2 l3 (op, OA, OB) HFX.out)
                    go_wp2_with fail
                    refine HOP.out.mono ?_
                    rintro e w7 ⟨rfl, hb7⟩
                    have HB7 := hide (HB6.out.trans (hb7.mono hs6))
                    have hs7 := HB7.out.size
                    have HX7 := hide (keepTy_below hb7 56 _ _ _ HX6.out)
                    have HLD7 := hide (laid_keep HLD6.out hb7)
                    have HBX7 := hide (keepTy_below hb7 27 _ _ _ HBX6.out)
                    have HIN7 := hide (inown_keep HIN6.out hb7)
                    clear hb7 HOP HX6 HLD6 HBX6 HIN6 HB6 x0 x1 x2 p0 p1 p2 p3 p4 p5
                    cases hopn : opnd (P.avgs.length, P.cur.length, P.nears.length) (op, OA, OB) with
                    | false =>
                      have HBAD := hide (bad_op (T := sz P) HI.out HX.out HQ.out (.inl hopn))
                      have HANS := hide (ans_none (P := P) (fun c' hc _ => by rw [HD.out] at hc; obtain rfl := Option.some.inj hc; exact HBAD.out))
                      go_wp2_with fail
                      go_ret2
                      exact ⟨by rw [HtOut, HANS.out] <;> rfl, HB7.out⟩
                    | true =>
                      have HOPN := hide (show opnd (sz P) (op, OA, OB) = true from hopn)
                      have HH' := hide (eff_lt HEFF.out hopn)
                      clear hopn
                      have hbx : w7.cell? ⟨w3.heap.size, 0, none⟩ = some (.slice (some ⟨w2.heap.size, 0, none⟩) at_.length at_.length) := by rw [cell_at HLD7.out.box]; rfl
                      have hci : w7.cell? ⟨w2.heap.size, i, none⟩ = some (.int .i64 q) := by rw [cell_at HLD7.out.row]; exact ats_get HQ.out
                      obtain ⟨x0, x1, x2⟩ := cells3 HX7.out
                      have hqm := mxTo_ge HQ.out
                      have m1 : ¬ ((mxTo at_ i : Nat) : Int) < (q : Int) := by omega
                      have m2 : ¬ mxTo at_ i < q := by omega
                      have hw3 : IntKind.i64.wrap ((i : Int) + 1) = (i : Int) + 1 := by rw [IntKind.wrap_i64]; omega
                      have HME := hide (show Calls Tryd.prog 37 #[.int .i64 ((i : Int) + 1), .int .i64 h', .pointer (some ⟨w3.heap.size, 0, none⟩)] w7 _ from by
                        have h := meet_any w7 w3.heap.size w2.heap.size w2.heap.size at_ HLD7.out (Nat.le_refl _) (i + 1) h' (by rw [HLEN.out]; exact hnl)
                        simpa using h)
                      obtain ⟨M, hM⟩ : ∃ M : Nat, M = max (mxTo at_ i) h' := ⟨_, rfl⟩
                      have HMM := hide hM
                      by_cases m3 : mxTo at_ i < h'
                      · have m3i : ((mxTo at_ i : Nat) : Int) < (h' : Int) := by omega
                        have hMv : M = h' := by omega
                        have HMV := hide hMv
                        clear hM hMv m3
                        go_wp2_with fail
                        refine HME.out.mono ?_
                        rintro e w8 ⟨hcase, hb8, hk8⟩
                        have HB8 := hide (HB7.out.trans (hb8.mono hs2))
                        have hs8 := HB8.out.size
                        rcases hcase with ⟨hfit, rfl, hld8⟩ | ⟨hnf, rfl⟩
                        · have HFIT8 := hide hfit
                          have HLD8 := hide hld8
                          have HX8 := hide (hk8 56 (by decide) _ _ _ HX7.out)
                          have HBX8 := hide (hk8 27 (by decide) _ _ _ HBX7.out)
                          have HIN8 := hide (show InOwn w8 _ _ c from row_keepTy HIN7.out (hk8 56 (by decide)))
                          clear hfit hld8 hb8 hk8 HME HX7 HLD7 HBX7 HIN7 HB7 x0 x1 x2 hbx hci
                          have HIV := hide (lay_next HI.out HX.out HQ.out HEFF.out hnl HFIT8.out)
                          have HNX := hide (set_now HFIT8.out)
                          have HQ8 := hide (set_keeps HFIT8.out HQ.out)
                          have HMX8 := hide (show M = mxTo (at_.set (i + 1) (some h')) (i + 1) from by rw [mxTo_step HNX.out, mxTo_set _ (by omega)]; exact HMM.out)
                          have HBD8 := hide (show ∀ k g : Nat, (at_.set (i + 1) (some h'))[k]? = some (some g) → g ≤ i + 1 from fun k g hk => by
                            rw [set_get] at hk
                            split at hk
                            · split at hk
                              · simp at hk; have := HH'.out; omega
                              · cases hk
                            · have := HBD.out k g hk; omega)
                          have hlen8 : (at_.set (i + 1) (some h')).length = c.length := by rw [List.length_set]; exact HLEN.out
                          have HLEN8 := hide hlen8
                          generalize at_.set (i + 1) (some h') = at8 at HLD8 HIV HNX HQ8 HMX8 HBD8 HLEN8
                          clear hlen8 HFIT8
                          obtain ⟨x0, x1, x2⟩ := cells3 HX8.out
                          by_cases hj : op = 15 ∨ op = 16
                          · have HJ := hide hj
                            have hwd1 : IntKind.i64.wrap ((c.length : Int) - 2) = (c.length : Int) - 2 := by rw [IntKind.wrap_i64]; omega
                            have hwd2 : IntKind.i64.wrap ((c.length : Int) - 2 - i) = (c.length : Int) - 2 - i := by rw [IntKind.wrap_i64]; omega
                            have hwd3 : IntKind.u64.wrap ((c.length : Int) - 2 - i) = (c.length : Int) - 2 - i := by rw [IntKind.wrap_u64]; omega
                            by_cases hfar : i + 1 + OA < c.length
                            · have hf1 : ¬ (c.length : Int) - 2 - i < (OA : Int) := by omega
                              have hwa : IntKind.i64.wrap (OA : Int) = (OA : Int) := by rw [IntKind.wrap_i64]; omega
                              have hwb : IntKind.i64.wrap ((i : Int) + 1 + OA) = (i : Int) + 1 + OA := by rw [IntKind.wrap_i64]; omega
                              have HME2 := hide (show Calls Tryd.prog 37 #[.int .i64 ((i : Int) + 1 + OA), .int .i64 h', .pointer (some ⟨w3.heap.size, 0, none⟩)] w8 _ from by
                                have h := meet_any w8 w3.heap.size w2.heap.size w2.heap.size at8 HLD8.out (Nat.le_refl _) (i + 1 + OA) h' (by rw [HLEN8.out]; exact hfar)
                                simpa using h)
                              rcases hj with h15 | h16
                              · have j1 : ((op : Int) == 15) = true := by simp; omega
                                have j2 : ((op : Int) = 15) = True := by simp; omega
                                clear h15
                                go_wp2_with fail
                                refine HME2.out.mono ?_
                                rintro e w10 ⟨hcase, hb10, hk10⟩
                                have HB10 := hide (HB8.out.trans (hb10.mono hs2))
                                have hs10 := HB10.out.size
                                rcases hcase with ⟨hfit, rfl, hld10⟩ | ⟨hnf, rfl⟩
                                · have HFT := hide hfit
                                  have HLD10 := hide hld10
                                  have HBX10 := hide (hk10 27 (by decide) _ _ _ HBX8.out)
                                  have HIN10 := hide (show InOwn w10 _ _ c from row_keepTy HIN8.out (hk10 56 (by decide)))
                                  clear hfit hld10 hb10 hk10
                                  have HIJ := hide (lay_jump HIV.out HX.out HQ8.out HEFF.out HJ.out hfar HFT.out)
                                  have HGO := hide (go_next HIJ.out HX.out (set_keeps HFT.out HQ8.out) HEFF.out HOPN.out H0.out hnl (set_keeps HFT.out HNX.out) (fun _ => ⟨hfar, set_now HFT.out⟩))
                                  have HMX10 := hide (show M = mxTo (at8.set (i + 1 + OA) (some h')) (i + 1) from by
                                    by_cases h0 : OA = 0
                                    · rw [h0, Nat.add_zero, fits_set HNX.out]; exact HMX8.out
                                    · rw [mxTo_set _ (by omega)]; exact HMX8.out)
                                  have HBD10 := hide (show ∀ k g : Nat, (at8.set (i + 1 + OA) (some h'))[k]? = some (some g) → g ≤ i + 1 from fun k g hk => by
                                    rw [set_get] at hk
                                    split at hk
                                    · split at hk
                                      · simp at hk; have := HH'.out; omega
                                      · cases hk
                                    · exact HBD8.out k g hk)
                                  go_wp2_with fail
                                  go_roundw
                                  case rel =>
                                    exact ⟨i + 1, at8.set (i + 1 + OA) (some h'), by simp, by rw [← HMX10.out, HMV.out], HGO.out, HLD10.out, HBD10.out, HBX10.out, HIN10.out, HB10.out⟩
                                  case measure => simp [intOf]; omega
                                · have HBAD := hide (bad_jump HIV.out HX.out HQ8.out HEFF.out HJ.out hfar hnf)
                                  have HANS := hide (ans_none (P := P) (fun c' hc _ => by rw [HD.out] at hc; obtain rfl := Option.some.inj hc; exact HBAD.out))
                                  clear hnf
                                  go_wp2_with fail
                                  go_ret2
                                  exact ⟨by rw [HtOut, HANS.out] <;> rfl, HB10.out⟩
                              · have j1 : ((op : Int) == 15) = false := by simp; omega
                                have j2 : ((op : Int) = 15) = False := by simp; omega
                                have j3 : ((op : Int) == 16) = true := by simp; omega
                                have j4 : ((op : Int) = 16) = True := by simp; omega
                                clear h16
                                go_wp2_with fail
                                refine HME2.out.mono ?_
                                rintro e w10 ⟨hcase, hb10, hk10⟩
                                have HB10 := hide (HB8.out.trans (hb10.mono hs2))
                                have hs10 := HB10.out.size
                                rcases hcase with ⟨hfit, rfl, hld10⟩ | ⟨hnf, rfl⟩
                                · have HFT := hide hfit
                                  have HLD10 := hide hld10
                                  have HBX10 := hide (hk10 27 (by decide) _ _ _ HBX8.out)
                                  have HIN10 := hide (show InOwn w10 _ _ c from row_keepTy HIN8.out (hk10 56 (by decide)))
                                  clear hfit hld10 hb10 hk10
                                  have HIJ := hide (lay_jump HIV.out HX.out HQ8.out HEFF.out HJ.out hfar HFT.out)
                                  have HGO := hide (go_next HIJ.out HX.out (set_keeps HFT.out HQ8.out) HEFF.out HOPN.out H0.out hnl (set_keeps HFT.out HNX.out) (fun _ => ⟨hfar, set_now HFT.out⟩))
                                  have HMX10 := hide (show M = mxTo (at8.set (i + 1 + OA) (some h')) (i + 1) from by
                                    by_cases h0 : OA = 0
                                    · rw [h0, Nat.add_zero, fits_set HNX.out]; exact HMX8.out
                                    · rw [mxTo_set _ (by omega)]; exact HMX8.out)
                                  have HBD10 := hide (show ∀ k g : Nat, (at8.set (i + 1 + OA) (some h'))[k]? = some (some g) → g ≤ i + 1 from fun k g hk => by
                                    rw [set_get] at hk
                                    split at hk
                                    · split at hk
                                      · simp at hk; have := HH'.out; omega
                                      · cases hk
                                    · exact HBD8.out k g hk)
                                  go_wp2_with fail
                                  go_roundw
                                  case rel =>
                                    exact ⟨i + 1, at8.set (i + 1 + OA) (some h'), by simp, by rw [← HMX10.out, HMV.out], HGO.out, HLD10.out, HBD10.out, HBX10.out, HIN10.out, HB10.out⟩
                                  case measure => simp [intOf]; omega
                                · have HBAD := hide (bad_jump HIV.out HX.out HQ8.out HEFF.out HJ.out hfar hnf)
                                  have HANS := hide (ans_none (P := P) (fun c' hc _ => by rw [HD.out] at hc; obtain rfl := Option.some.inj hc; exact HBAD.out))
                                  clear hnf
                                  go_wp2_with fail
                                  go_ret2
                                  exact ⟨by rw [HtOut, HANS.out] <;> rfl, HB10.out⟩
                            · have hf1 : (c.length : Int) - 2 - i < (OA : Int) := by omega
                              have HBAD := hide (bad_far HIV.out HX.out HQ8.out hj hfar)
                              have HANS := hide (ans_none (P := P) (fun c' hc _ => by rw [HD.out] at hc; obtain rfl := Option.some.inj hc; exact HBAD.out))
                              rcases hj with h15 | h16
                              · have j1 : ((op : Int) == 15) = true := by simp; omega
                                have j2 : ((op : Int) = 15) = True := by simp; omega
                                clear h15
                                go_wp2_with fail
                                go_ret2
                                exact ⟨by rw [HtOut, HANS.out] <;> rfl, HB8.out⟩
                              · have j1 : ((op : Int) == 15) = false := by simp; omega
                                have j2 : ((op : Int) = 15) = False := by simp; omega
                                have j3 : ((op : Int) == 16) = true := by simp; omega
                                have j4 : ((op : Int) = 16) = True := by simp; omega
                                clear h16
                                go_wp2_with fail
                                go_ret2
                                exact ⟨by rw [HtOut, HANS.out] <;> rfl, HB8.out⟩
                          · have j1 : ((op : Int) == 15) = false := by simp; omega
                            have j2 : ((op : Int) = 15) = False := by simp; omega
                            have j3 : ((op : Int) == 16) = false := by simp; omega
                            have j4 : ((op : Int) = 16) = False := by simp; omega
                            have HGO := hide (go_next HIV.out HX.out HQ8.out HEFF.out HOPN.out H0.out hnl HNX.out (fun h => absurd h hj))
                            clear hj
                            go_wp2_with fail
                            go_roundw
                            case rel =>
                              exact ⟨i + 1, at8, by simp, by rw [← HMX8.out, HMV.out], HGO.out, HLD8.out, HBD8.out, HBX8.out, HIN8.out, HB8.out⟩
                            case measure => simp [intOf]; omega
                        · have HBAD := hide (bad_next HI.out HX.out HQ.out HEFF.out hnl hnf)
                          have HANS := hide (ans_none (P := P) (fun c' hc _ => by rw [HD.out] at hc; obtain rfl := Option.some.inj hc; exact HBAD.out))
                          clear hnf
                          go_wp2_with fail
                          go_ret2
                          exact ⟨by rw [HtOut, HANS.out] <;> rfl, HB8.out⟩
                      · have m3i : ¬ ((mxTo at_ i : Nat) : Int) < (h' : Int) := by omega
                        have hMv : M = mxTo at_ i := by omega
                        have HMV := hide hMv
                        clear hM hMv
                        go_wp2_with fail
                        refine HME.out.mono ?_
                        rintro e w8 ⟨hcase, hb8, hk8⟩
                        have HB8 := hide (HB7.out.trans (hb8.mono hs2))
                        have hs8 := HB8.out.size
                        rcases hcase with ⟨hfit, rfl, hld8⟩ | ⟨hnf, rfl⟩
                        · have HFIT8 := hide hfit
                          have HLD8 := hide hld8
                          have HX8 := hide (hk8 56 (by decide) _ _ _ HX7.out)
                          have HBX8 := hide (hk8 27 (by decide) _ _ _ HBX7.out)
                          have HIN8 := hide (show InOwn w8 _ _ c from row_keepTy HIN7.out (hk8 56 (by decide)))
                          clear hfit hld8 hb8 hk8 HME HX7 HLD7 HBX7 HIN7 HB7 x0 x1 x2 hbx hci
                          have HIV := hide (lay_next HI.out HX.out HQ.out HEFF.out hnl HFIT8.out)
                          have HNX := hide (set_now HFIT8.out)
                          have HQ8 := hide (set_keeps HFIT8.out HQ.out)
                          have HMX8 := hide (show M = mxTo (at_.set (i + 1) (some h')) (i + 1) from by rw [mxTo_step HNX.out, mxTo_set _ (by omega)]; exact HMM.out)
                          have HBD8 := hide (show ∀ k g : Nat, (at_.set (i + 1) (some h'))[k]? = some (some g) → g ≤ i + 1 from fun k g hk => by
                            rw [set_get] at hk
                            split at hk
                            · split at hk
                              · simp at hk; have := HH'.out; omega
                              · cases hk
                            · have := HBD.out k g hk; omega)
                          have hlen8 : (at_.set (i + 1) (some h')).length = c.length := by rw [List.length_set]; exact HLEN.out
                          have HLEN8 := hide hlen8
                          generalize at_.set (i + 1) (some h') = at8 at HLD8 HIV HNX HQ8 HMX8 HBD8 HLEN8
                          clear hlen8 HFIT8
                          obtain ⟨x0, x1, x2⟩ := cells3 HX8.out
                          by_cases hj : op = 15 ∨ op = 16
                          · have HJ := hide hj
                            have hwd1 : IntKind.i64.wrap ((c.length : Int) - 2) = (c.length : Int) - 2 := by rw [IntKind.wrap_i64]; omega
                            have hwd2 : IntKind.i64.wrap ((c.length : Int) - 2 - i) = (c.length : Int) - 2 - i := by rw [IntKind.wrap_i64]; omega
                            have hwd3 : IntKind.u64.wrap ((c.length : Int) - 2 - i) = (c.length : Int) - 2 - i := by rw [IntKind.wrap_u64]; omega
                            by_cases hfar : i + 1 + OA < c.length
                            · have hf1 : ¬ (c.length : Int) - 2 - i < (OA : Int) := by omega
                              have hwa : IntKind.i64.wrap (OA : Int) = (OA : Int) := by rw [IntKind.wrap_i64]; omega
                              have hwb : IntKind.i64.wrap ((i : Int) + 1 + OA) = (i : Int) + 1 + OA := by rw [IntKind.wrap_i64]; omega
                              have HME2 := hide (show Calls Tryd.prog 37 #[.int .i64 ((i : Int) + 1 + OA), .int .i64 h', .pointer (some ⟨w3.heap.size, 0, none⟩)] w8 _ from by
                                have h := meet_any w8 w3.heap.size w2.heap.size w2.heap.size at8 HLD8.out (Nat.le_refl _) (i + 1 + OA) h' (by rw [HLEN8.out]; exact hfar)
                                simpa using h)
                              rcases hj with h15 | h16
                              · have j1 : ((op : Int) == 15) = true := by simp; omega
                                have j2 : ((op : Int) = 15) = True := by simp; omega
                                clear h15
                                go_wp2_with fail
                                refine HME2.out.mono ?_
                                rintro e w10 ⟨hcase, hb10, hk10⟩
                                have HB10 := hide (HB8.out.trans (hb10.mono hs2))
                                have hs10 := HB10.out.size
                                rcases hcase with ⟨hfit, rfl, hld10⟩ | ⟨hnf, rfl⟩
                                · have HFT := hide hfit
                                  have HLD10 := hide hld10
                                  have HBX10 := hide (hk10 27 (by decide) _ _ _ HBX8.out)
                                  have HIN10 := hide (show InOwn w10 _ _ c from row_keepTy HIN8.out (hk10 56 (by decide)))
                                  clear hfit hld10 hb10 hk10
                                  have HIJ := hide (lay_jump HIV.out HX.out HQ8.out HEFF.out HJ.out hfar HFT.out)
                                  have HGO := hide (go_next HIJ.out HX.out (set_keeps HFT.out HQ8.out) HEFF.out HOPN.out H0.out hnl (set_keeps HFT.out HNX.out) (fun _ => ⟨hfar, set_now HFT.out⟩))
                                  have HMX10 := hide (show M = mxTo (at8.set (i + 1 + OA) (some h')) (i + 1) from by
                                    by_cases h0 : OA = 0
                                    · rw [h0, Nat.add_zero, fits_set HNX.out]; exact HMX8.out
                                    · rw [mxTo_set _ (by omega)]; exact HMX8.out)
                                  have HBD10 := hide (show ∀ k g : Nat, (at8.set (i + 1 + OA) (some h'))[k]? = some (some g) → g ≤ i + 1 from fun k g hk => by
                                    rw [set_get] at hk
                                    split at hk
                                    · split at hk
                                      · simp at hk; have := HH'.out; omega
                                      · cases hk
                                    · exact HBD8.out k g hk)
                                  go_wp2_with fail
                                  go_roundw
                                  case rel =>
                                    exact ⟨i + 1, at8.set (i + 1 + OA) (some h'), by simp, by rw [← HMX10.out, HMV.out], HGO.out, HLD10.out, HBD10.out, HBX10.out, HIN10.out, HB10.out⟩
                                  case measure => simp [intOf]; omega
                                · have HBAD := hide (bad_jump HIV.out HX.out HQ8.out HEFF.out HJ.out hfar hnf)
                                  have HANS := hide (ans_none (P := P) (fun c' hc _ => by rw [HD.out] at hc; obtain rfl := Option.some.inj hc; exact HBAD.out))
                                  clear hnf
                                  go_wp2_with fail
                                  go_ret2
                                  exact ⟨by rw [HtOut, HANS.out] <;> rfl, HB10.out⟩
                              · have j1 : ((op : Int) == 15) = false := by simp; omega
                                have j2 : ((op : Int) = 15) = False := by simp; omega
                                have j3 : ((op : Int) == 16) = true := by simp; omega
                                have j4 : ((op : Int) = 16) = True := by simp; omega
                                clear h16
                                go_wp2_with fail
                                refine HME2.out.mono ?_
                                rintro e w10 ⟨hcase, hb10, hk10⟩
                                have HB10 := hide (HB8.out.trans (hb10.mono hs2))
                                have hs10 := HB10.out.size
                                rcases hcase with ⟨hfit, rfl, hld10⟩ | ⟨hnf, rfl⟩
                                · have HFT := hide hfit
                                  have HLD10 := hide hld10
                                  have HBX10 := hide (hk10 27 (by decide) _ _ _ HBX8.out)
                                  have HIN10 := hide (show InOwn w10 _ _ c from row_keepTy HIN8.out (hk10 56 (by decide)))
                                  clear hfit hld10 hb10 hk10
                                  have HIJ := hide (lay_jump HIV.out HX.out HQ8.out HEFF.out HJ.out hfar HFT.out)
                                  have HGO := hide (go_next HIJ.out HX.out (set_keeps HFT.out HQ8.out) HEFF.out HOPN.out H0.out hnl (set_keeps HFT.out HNX.out) (fun _ => ⟨hfar, set_now HFT.out⟩))
                                  have HMX10 := hide (show M = mxTo (at8.set (i + 1 + OA) (some h')) (i + 1) from by
                                    by_cases h0 : OA = 0
                                    · rw [h0, Nat.add_zero, fits_set HNX.out]; exact HMX8.out
                                    · rw [mxTo_set _ (by omega)]; exact HMX8.out)
                                  have HBD10 := hide (show ∀ k g : Nat, (at8.set (i + 1 + OA) (some h'))[k]? = some (some g) → g ≤ i + 1 from fun k g hk => by
                                    rw [set_get] at hk
                                    split at hk
                                    · split at hk
                                      · simp at hk; have := HH'.out; omega
                                      · cases hk
                                    · exact HBD8.out k g hk)
                                  go_wp2_with fail
                                  go_roundw
                                  case rel =>
                                    exact ⟨i + 1, at8.set (i + 1 + OA) (some h'), by simp, by rw [← HMX10.out, HMV.out], HGO.out, HLD10.out, HBD10.out, HBX10.out, HIN10.out, HB10.out⟩
                                  case measure => simp [intOf]; omega
                                · have HBAD := hide (bad_jump HIV.out HX.out HQ8.out HEFF.out HJ.out hfar hnf)
                                  have HANS := hide (ans_none (P := P) (fun c' hc _ => by rw [HD.out] at hc; obtain rfl := Option.some.inj hc; exact HBAD.out))
                                  clear hnf
                                  go_wp2_with fail
                                  go_ret2
                                  exact ⟨by rw [HtOut, HANS.out] <;> rfl, HB10.out⟩
                            · have hf1 : (c.length : Int) - 2 - i < (OA : Int) := by omega
                              have HBAD := hide (bad_far HIV.out HX.out HQ8.out hj hfar)
                              have HANS := hide (ans_none (P := P) (fun c' hc _ => by rw [HD.out] at hc; obtain rfl := Option.some.inj hc; exact HBAD.out))
                              rcases hj with h15 | h16
                              · have j1 : ((op : Int) == 15) = true := by simp; omega
                                have j2 : ((op : Int) = 15) = True := by simp; omega
                                clear h15
                                go_wp2_with fail
                                go_ret2
                                exact ⟨by rw [HtOut, HANS.out] <;> rfl, HB8.out⟩
                              · have j1 : ((op : Int) == 15) = false := by simp; omega
                                have j2 : ((op : Int) = 15) = False := by simp; omega
                                have j3 : ((op : Int) == 16) = true := by simp; omega
                                have j4 : ((op : Int) = 16) = True := by simp; omega
                                clear h16
                                go_wp2_with fail
                                go_ret2
                                exact ⟨by rw [HtOut, HANS.out] <;> rfl, HB8.out⟩
                          · have j1 : ((op : Int) == 15) = false := by simp; omega
                            have j2 : ((op : Int) = 15) = False := by simp; omega
                            have j3 : ((op : Int) == 16) = false := by simp; omega
                            have j4 : ((op : Int) = 16) = False := by simp; omega
                            have HGO := hide (go_next HIV.out HX.out HQ8.out HEFF.out HOPN.out H0.out hnl HNX.out (fun h => absurd h hj))
                            clear hj
                            go_wp2_with fail
                            go_roundw
                            case rel =>
                              exact ⟨i + 1, at8, by simp, by rw [← HMX8.out, HMV.out], HGO.out, HLD8.out, HBD8.out, HBX8.out, HIN8.out, HB8.out⟩
                            case measure => simp [intOf]; omega
                        · have HBAD := hide (bad_next HI.out HX.out HQ.out HEFF.out hnl hnf)
                          have HANS := hide (ans_none (P := P) (fun c' hc _ => by rw [HD.out] at hc; obtain rfl := Option.some.inj hc; exact HBAD.out))
                          clear hnf
                          go_wp2_with fail
                          go_ret2
                          exact ⟨by rw [HtOut, HANS.out] <;> rfl, HB8.out⟩
end Go.Proofs.YtbimpoabiafdaaaDoor
