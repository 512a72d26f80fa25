/- the reference's walk -/
import Derived.Test.YtbimpoabiafdaaaDoorHp
import Derived.Deep.RegionWith
namespace Go.Proofs.YtbimpoabiafdaaaDoor
open Go.RowKit Vf
/-- what the reference's walk answers -/
def WalkOut (P : Prg) (c : List Ins) (B : Nat) (e : Ending) (w' : World) : Prop :=
  (∃ H, Vf.Good (sz P) c H ∧ ∃ g, B ≤ g ∧ e = .returned (.tuple #[.slice (some ⟨g, 0, none⟩) H.length H.length, .bool true]) ∧ w'.heap[g]? = some (.cells (nats H).toArray 3 (0, 0))) ∨
  ((¬ ∃ H, Vf.Good (sz P) c H) ∧ e = .returned (.tuple #[.slice none 0 0, .bool false]))
set_option maxRecDepth 100000 in
set_option maxHeartbeats 8000000 in
theorem ref_walk_any (w : World) (aa ac an ad ab : Option Addr) (ca cc cn cd cb : Nat) (al : Bool) (P : Prg) (l1 : P.avgs.length ≤ 1099511627776) (l2 : P.cur.length ≤ 1099511627776) (l3 : P.nears.length ≤ 1099511627776)
    (c : List Ins) (hnpos : 0 < c.length) (hcl : c.length ≤ 1099511627776) (hfit : ∀ x ∈ c, Fit x) (aco : Option Addr) (cco : Nat) (hc : Inss w (.slice aco c.length cco) c) :
    Calls Tryd.prog 26 #[.agg #[.slice aa P.avgs.length ca, .slice ac P.cur.length cc, .slice an P.nears.length cn, .bool al, .slice ad P.drive.length cd, .slice ab P.code.length cb], .slice aco c.length cco] w fun e w' => WalkOut P c w.heap.size e w' ∧ Below w.heap.size w w' := by
  have hq1 := (Below.refl w.heap.size w).alloc (Nat.le_refl _) (.cells #[.slice aa P.avgs.length ca, .slice ac P.cur.length cc, .slice an P.nears.length cn, .bool al, .slice ad P.drive.length cd, .slice ab P.code.length cb] 27)
  have HB := hide hq1
  have HIW := hide (inss_keep hc hq1)
  have HFIT := hide hfit
  have HH := hide (heap_new (w := w) rfl (.cells #[.slice aa P.avgs.length ca, .slice ac P.cur.length cc, .slice an P.nears.length cn, .bool al, .slice ad P.drive.length cd, .slice ab P.code.length cb] 27))
  obtain ⟨i0, hi, hz0, hz1, hz2⟩ := info_parts info3
  clear hq1 hc hfit
  go_enter Tryd.func26, Tryd.ntmps26
  go_upto_region 2 with (fail)
  generalize w.alloc (.cells #[.slice aa P.avgs.length ca, .slice ac P.cur.length cc, .slice an P.nears.length cn, .bool al, .slice ad P.drive.length cd, .slice ab P.code.length cb] 27) = W at *
  have hsW := HB.out.size
  have HWL := hide (heap_lt HH.out)
  go_wp2_with (at_make; refine wpList_make_full _ rfl (.tmp 16) (.tmp 16) 22 rfl W.heap.size 3 i0 (.int .i64 0) 1 Tryd.underlying22 hi hz0 hz1 _ _ _ _ c.length rfl rfl rfl rfl ?_ ?_ (Nat.le_refl _) ?_)
  case refine_1 => rw [hz2]; omega
  case refine_2 => unfold maxLen; omega
  intro w3 hown hg
  have hrow := row_full' hown
  rw [fill_start] at hrow
  have HROW := hide hrow
  have HB3 := hide (show Below W.heap.size W w3 from ⟨hg.os, hg.tape, hg.output, hg.size, fun k hk => hg.block k hk (fun e => by cases e)⟩)
  clear hrow hown hg
  go_wp2_with fail
  go_loopw [8] (fun s wr => ∃ j : Nat, j ≤ c.length ∧ s = .int .i64 j ∧ wr.heap[W.heap.size]? = some (.cells (fillL c.length j).toArray 3 (0, 0)) ∧ Below W.heap.size W wr) (fun s _ => c.length - (intOf s).toNat)
  case atStart => exact ⟨0, by omega, rfl, HROW.out, HB3.out⟩
  case round =>
    obtain ⟨j, hj, rfl, hrow, hb⟩ := hrel
    by_cases hlt : j < c.length
    · have hf := free_at hrow j
      have hjc : wr.cell? ⟨W.heap.size, j, none⟩ = some (.int .i64 0) := by rw [cell_at hrow]; simp [fillL, hlt]
      have hset := heap_set (i := j) hrow (.int .i64 (-1))
      rw [fill_set _ _ hlt] at hset
      have HSET := hide hset
      have HBS := hide (below_set (i := j) hb (Nat.le_refl _) (.int .i64 (-1)))
      have hj1 : (j : Int) < (c.length : Int) := by omega
      clear hrow hb hset
      go_wp2_with fail
      exact ⟨⟨j + 1, by omega, by simp, HSET.out, HBS.out⟩, by simp [intOf]; omega⟩
    · obtain rfl : j = c.length := by omega
      have hf := free_at hrow 0
      have hjc : wr.cell? ⟨W.heap.size, 0, none⟩ = some (.int .i64 (-1)) := by rw [cell_at hrow]; simp [fillL, hnpos]
      have hset := heap_set (i := 0) hrow (.int .i64 0)
      rw [fill_end _ hnpos] at hset
      have HROW0 := hide hset
      have HB0 := hide (below_set (i := 0) hb (Nat.le_refl _) (.int .i64 0))
      have hnp1 : 0 < (c.length : Int) := by omega
      clear hrow hb hset
      go_wp2_with fail
      generalize wr.setCell ⟨W.heap.size, 0, none⟩ (.int .i64 0) = w9 at HROW0 HB0 ⊢
      clear hf hjc
      go_loopw [9] (fun s wr => ∃ (i : Nat) (at_ : At), s = .int .i64 i ∧ Inv (sz P) c at_ i ∧ wr.heap[W.heap.size]? = some (.cells (ats at_).toArray 3 (0, 0)) ∧ (∀ k h : Nat, at_[k]? = some (some h) → h ≤ i) ∧ Below W.heap.size W wr) (fun s _ => c.length - (intOf s).toNat)
      case atStart =>
        refine ⟨0, at0 c.length, rfl, inv_start (sz P) c hnpos, HROW0.out, fun k h hk => ?_, HB0.out⟩
        match k, hk with
        | 0, hk => simp [at0] at hk; omega
        | k + 1, hk =>
          simp only [at0, List.getElem?_cons_succ, List.getElem?_replicate] at hk
          split at hk <;> simp at hk
      case round =>
        obtain ⟨i, at_, rfl, hinv, hrow, hbound, hb⟩ := hrel
        have hi : i < c.length := hinv.lt
        have hil : i < at_.length := by rw [hinv.len]; exact hi
        obtain ⟨x, hx⟩ : ∃ x, c[i]? = some x := ⟨_, List.getElem?_eq_getElem hi⟩
        obtain ⟨q, hq⟩ := hinv.now
        have hqi := hbound i q hq
        have HLEN := hide hinv.len
        have HBD := hide hbound
        have HX := hide hx
        have HQ := hide hq
        have hfx := HFIT.out x (List.mem_of_getElem? hx)
        obtain ⟨adc, e, c0, c1, c2⟩ := inss_get (inss_keep HIW.out hb) hx
        subst e
        obtain ⟨op, OA, OB⟩ := x
        simp only at c0 c1 c2
        have HFX := hide hfx
        have hop : op < 17 := hfx.1
        have hOA : OA < 18446744073709551616 := hfx.2.1
        have hsr := hb.size
        have hq1 := (Below.refl wr.heap.size wr).alloc (Nat.le_refl _) (.cells #[.int .i64 op, .int .u64 OA, .int .u64 OB] 56)
        have hX5 := heap_new (w := wr) rfl (.cells #[.int .i64 op, .int .u64 OA, .int .u64 OB] 56)
        have HROW5 := hide (keepTy_below hq1 3 _ _ _ hrow)
        have HB5 := hide (hb.trans (hq1.mono hsr))
        have HI := hide hinv
        have hwn : IntKind.i64.wrap ((c.length : Int) - 1) = (c.length : Int) - 1 := by rw [IntKind.wrap_i64]; omega
        have hin1 : (i : Int) < (c.length : Int) := by omega
        clear hinv hrow hbound hb hx hq hfx hq1
        go_upto_region 12 with (fail)
        have HX5 := hide hX5
        clear hX5 c0 c1 c2
        generalize wr.alloc (.cells #[.int .i64 op, .int .u64 OA, .int .u64 OB] 56) = w5 at *
        generalize wr.heap.size = X at HX5 ⊢
        have hs5 := HB5.out.size
        obtain ⟨x0, x1, x2⟩ := cells3 HX5.out
        have hci : w5.cell? ⟨W.heap.size, i, none⟩ = some (.int .i64 q) := by rw [cell_at HROW5.out]; exact ats_get HQ.out
        have HEF := hide (show Calls Tryd.prog 43 #[.agg #[.int .i64 op, .int .u64 OA, .int .u64 OB], .int .i64 q] w5.drew _ from behind_any w5.drew (op, OA, OB) HFX.out q (by omega))
        go_cut [11, 12] (fun s11 s12 wx => EffCut (op, OA, OB) q w5 s11 s12 wx)
        case first =>
          go_region_with
            (first
              | (go_at_call 43
                 refine HEF.out.mono ?_
                 rintro e w6 ⟨⟨z, b, rfl, hz⟩, hb6⟩))
          all_goals (go_wp2_with fail; go_meet; exact ⟨⟨z, b, rfl, rfl, hz⟩, (Below.refl w5.heap.size w5).drew.trans hb6⟩)
        case rest =>
        obtain ⟨⟨z, b, rfl, rfl, hz⟩, hb6'⟩ := hcut
        have HB6 := hide (HB5.out.trans (hb6'.mono hs5))
        have hs6 := HB6.out.size
        have HX6 := hide (keepTy_below hb6' 56 _ _ _ HX5.out)
        have HROW6 := hide (keepTy_below hb6' 3 _ _ _ HROW5.out)
        clear hb6' HEF HX5 HROW5 HB5 x0 x1 x2 hci
        cases heff : eff (op, OA, OB) q with
        | none =>
          rw [heff] at hz
          subst hz
          have HBAD := hide (bad_op HI.out HX.out HQ.out (.inr (.inl heff)))
          go_wp2_with fail
          go_ret2
          exact ⟨.inr ⟨HBAD.out, rfl⟩, (HB.out.trans (HB6.out.mono hsW))⟩
        | some h' =>
          rw [heff] at hz
          obtain ⟨rfl, rfl⟩ := hz
          have HEFF := hide heff
          clear heff
          obtain ⟨x0, x1, x2⟩ := cells3 HX6.out
          have hci : wc.cell? ⟨W.heap.size, i, none⟩ = some (.int .i64 q) := by rw [cell_at HROW6.out]; exact ats_get HQ.out
          obtain ⟨p0, p1, p2, p3, p4, p5⟩ := cells6 ((HB6.out.block _ HWL.out).trans HH.out)
          have hq0 : ¬ (q : Int) < 0 := by omega
          have HOP := hide (show Calls Tryd.prog 44 #[.agg #[.slice aa P.avgs.length ca, .slice ac P.cur.length cc, .slice an P.nears.length cn, .bool al, .slice ad P.drive.length cd, .slice ab P.code.length cb], .agg #[.int .i64 op, .int .u64 OA, .int .u64 OB]] wc _ from ref_operands_any wc aa ac an ad ab P.avgs.length P.cur.length P.nears.length P.drive.length P.code.length ca cc cn cd cb al l1 l2 l3 (op, OA, OB) HFX.out)
          go_wp2_with fail
          refine HOP.out.mono ?_
          rintro e w7 ⟨rfl, hb7⟩
          have HB7 := hide (HB6.out.trans (hb7.mono hs6))
          have hs7 := HB7.out.size
          have HX7 := hide (keepTy_below hb7 56 _ _ _ HX6.out)
          have HROW7 := hide (keepTy_below hb7 3 _ _ _ HROW6.out)
          clear hb7 HOP HX6 HROW6 HB6 x0 x1 x2 hci p0 p1 p2 p3 p4 p5
          cases hopn : opnd (P.avgs.length, P.cur.length, P.nears.length) (op, OA, OB) with
          | false =>
            have HBAD := hide (bad_op (T := sz P) HI.out HX.out HQ.out (.inl hopn))
            go_wp2_with fail
            go_ret2
            exact ⟨.inr ⟨HBAD.out, rfl⟩, (HB.out.trans (HB7.out.mono hsW))⟩
          | true =>
            have HOPN := hide (show opnd (sz P) (op, OA, OB) = true from hopn)
            have HH' := hide (eff_lt HEFF.out hopn)
            clear hopn
            obtain ⟨x0, x1, x2⟩ := cells3 HX7.out
            by_cases h0 : op = 0
            · have h0i : ((op : Int) == 0) = true := by simp; omega
              have h0j : ((op : Int) = 0) = True := by simp; omega
              by_cases hlast : i + 1 = c.length
              · have e1 : ((i : Int) == (c.length : Int) - 1) = true := by simp; omega
                have H0 := hide h0
                have HLAST := hide hlast
                obtain ⟨H, hH, hgood⟩ := go_end HI.out HX.out HQ.out HEFF.out HOPN.out h0 hlast
                have HG := hide hgood
                have hlen1 : at_.length = H.length := by rw [hH, List.length_map]
                have HROWE := hide (show w7.heap[W.heap.size]? = some (.cells (nats H).toArray 3 (0, 0)) from by have := HROW7.out; rw [hH, ats_some] at this; exact this)
                have hlen2 : c.length = H.length := by have := HLEN.out; omega
                have HL2 := hide hlen2
                clear h0 hlast hH hgood hlen1 hlen2
                go_wp2_with fail
                go_ret2
                exact ⟨.inl ⟨H, HG.out, W.heap.size, hsW, by rw [HL2.out] <;> rfl, HROWE.out⟩, (HB.out.trans (HB7.out.mono hsW))⟩
              · have e1 : ((i : Int) == (c.length : Int) - 1) = false := by simp; omega
                have HBAD := hide (bad_op HI.out HX.out HQ.out (.inr (.inr (fun h => hlast (h.1 h0)))))
                clear h0 hlast
                go_wp2_with fail
                go_ret2
                exact ⟨.inr ⟨HBAD.out, rfl⟩, (HB.out.trans (HB7.out.mono hsW))⟩
            · have h0i : ((op : Int) == 0) = false := by simp; omega
              have h0j : ((op : Int) = 0) = False := by simp; omega
              by_cases hlast : i + 1 = c.length
              · have e1 : ((i : Int) == (c.length : Int) - 1) = true := by simp; omega
                have HBAD := hide (bad_op HI.out HX.out HQ.out (.inr (.inr (fun h => h0 (h.2 hlast)))))
                clear h0 hlast
                go_wp2_with fail
                go_ret2
                exact ⟨.inr ⟨HBAD.out, rfl⟩, (HB.out.trans (HB7.out.mono hsW))⟩
              · have e1 : ((i : Int) == (c.length : Int) - 1) = false := by simp; omega
                have H0 := hide h0
                have hnl : i + 1 < c.length := by omega
                have hnl1 : (i : Int) + 1 < (c.length : Int) := by omega
                have hw3 : IntKind.i64.wrap ((i : Int) + 1) = (i : Int) + 1 := by rw [IntKind.wrap_i64]; omega
                obtain ⟨o, ho⟩ : ∃ o, at_[i + 1]? = some o := ⟨_, List.getElem?_eq_getElem (by rw [HLEN.out]; exact hnl)⟩
                have hcn : w7.cell? ⟨W.heap.size, i + 1, none⟩ = some (.int .i64 (atI o)) := by rw [cell_at HROW7.out]; exact ats_get ho
                have hf := free_at HROW7.out (i + 1)
                clear h0 hlast
                by_cases hfit : fits at_ (i + 1) h'
                · have hway : ¬ 0 ≤ atI o ∨ (0 ≤ atI o ∧ (atI o == (h' : Int)) = true) := by
                    rcases hfit with h | h
                    · rw [ho] at h; obtain rfl := Option.some.inj h; exact .inl (by decide)
                    · rw [ho] at h; obtain rfl := Option.some.inj h; exact .inr ⟨by simp [atI], by simp [atI]⟩
                  have HFIT8 := hide hfit
                  have hrow8 := heap_set (i := i + 1) HROW7.out (.int .i64 (h' : Nat))
                  rw [ats_set] at hrow8
                  have HROW8 := hide hrow8
                  have HX8 := hide (keepTy_at (i := i + 1) HROW7.out (show (3 : TypeId) ≠ 56 by decide) (.int .i64 (h' : Nat)) _ _ _ HX7.out)
                  have HB8 := hide (below_set (i := i + 1) HB7.out (Nat.le_refl _) (.int .i64 (h' : Nat)))
                  clear hfit hrow8 ho
                  have HIV := hide (lay_next HI.out HX.out HQ.out HEFF.out hnl HFIT8.out)
                  have HNX := hide (set_now HFIT8.out)
                  have HQ8 := hide (set_keeps HFIT8.out HQ.out)
                  have HBD8 := hide (show ∀ k g : Nat, (at_.set (i + 1) (some h'))[k]? = some (some g) → g ≤ i + 1 from fun k g hk => by
                    rw [set_get] at hk
                    split at hk
                    · split at hk
                      · simp at hk; have := HH'.out; omega
                      · cases hk
                    · have := HBD.out k g hk; omega)
                  have hlen8 : (at_.set (i + 1) (some h')).length = c.length := by rw [List.length_set]; exact HLEN.out
                  have HLEN8 := hide hlen8
                  generalize at_.set (i + 1) (some h') = at8 at HROW8 HIV HNX HQ8 HBD8 HLEN8
                  clear hlen8 HFIT8
                  obtain ⟨z, hz⟩ : ∃ z, atI o = z := ⟨_, rfl⟩
                  rw [hz] at hcn hway
                  clear hz
                  obtain ⟨x0', x1', x2'⟩ := cells3 HX8.out
                  rcases hway with hw | ⟨hw, hwe⟩
                  · by_cases hj : op = 15 ∨ op = 16
                    · have HJ := hide hj
                      have hwd1 : IntKind.i64.wrap ((c.length : Int) - i) = (c.length : Int) - i := by rw [IntKind.wrap_i64]; omega
                      have hwd2 : IntKind.i64.wrap ((c.length : Int) - i - 1) = (c.length : Int) - i - 1 := by rw [IntKind.wrap_i64]; omega
                      have hwd3 : IntKind.u64.wrap ((c.length : Int) - i - 1) = (c.length : Int) - i - 1 := by rw [IntKind.wrap_u64]; omega
                      by_cases hfar : i + 1 + OA < c.length
                      · have hf1 : ¬ (c.length : Int) - i - 1 ≤ (OA : Int) := by omega
                        have hwa : IntKind.i64.wrap (OA : Int) = (OA : Int) := by rw [IntKind.wrap_i64]; omega
                        obtain ⟨t, ht⟩ : ∃ t, i + 1 + OA = t := ⟨_, rfl⟩
                        have hwb : IntKind.i64.wrap ((i : Int) + 1 + OA) = (t : Int) := by rw [IntKind.wrap_i64]; omega
                        rw [ht] at hfar
                        have hfar1 : (t : Int) < (c.length : Int) := by omega
                        have HT := hide ht
                        obtain ⟨o2, ho2⟩ : ∃ o, at8[t]? = some o := ⟨_, List.getElem?_eq_getElem (by rw [HLEN8.out]; exact hfar)⟩
                        have hcn2 : (w7.setCell ⟨W.heap.size, i + 1, none⟩ (.int .i64 (h' : Nat))).cell? ⟨W.heap.size, t, none⟩ = some (.int .i64 (atI o2)) := by rw [cell_at HROW8.out]; exact ats_get ho2
                        have hf2 := free_at HROW8.out t
                        obtain ⟨w8, hw8⟩ : ∃ w8, w7.setCell ⟨W.heap.size, i + 1, none⟩ (.int .i64 (h' : Nat)) = w8 := ⟨_, rfl⟩
                        have HW8 := hide hw8
                        rw [hw8] at hcn2 hf2
                        by_cases hfit2 : fits at8 t h'
                        · have hway2 : ¬ 0 ≤ atI o2 ∨ (0 ≤ atI o2 ∧ (atI o2 == (h' : Int)) = true) := by
                            rcases hfit2 with h | h
                            · rw [ho2] at h; obtain rfl := Option.some.inj h; exact .inl (by decide)
                            · rw [ho2] at h; obtain rfl := Option.some.inj h; exact .inr ⟨by simp [atI], by simp [atI]⟩
                          have HFT := hide (show fits at8 (i + 1 + OA) h' by rw [HT.out]; exact hfit2)
                          have hfar0 : i + 1 + OA < c.length := by rw [HT.out]; exact hfar
                          have HIJ := hide (lay_jump HIV.out HX.out HQ8.out HEFF.out HJ.out hfar0 HFT.out)
                          have HGO := hide (show Inv (sz P) c (at8.set t (some h')) (i + 1) from by rw [← HT.out]; exact go_next HIJ.out HX.out (set_keeps HFT.out HQ8.out) HEFF.out HOPN.out H0.out hnl (set_keeps HFT.out HNX.out) (fun _ => ⟨hfar0, set_now HFT.out⟩))
                          have HBD10 := hide (show ∀ k g : Nat, (at8.set t (some h'))[k]? = some (some g) → g ≤ i + 1 from fun k g hk => by
                            rw [set_get] at hk
                            split at hk
                            · split at hk
                              · simp at hk; have := HH'.out; omega
                              · cases hk
                            · exact HBD8.out k g hk)
                          have hrow10 := heap_set (i := t) HROW8.out (.int .i64 (h' : Nat))
                          rw [ats_set] at hrow10
                          have HROW10 := hide (show (w8.setCell ⟨W.heap.size, t, none⟩ (.int .i64 (h' : Nat))).heap[W.heap.size]? = some (.cells (ats (at8.set t (some h'))).toArray 3 (0, 0)) from by rw [← HW8.out]; exact hrow10)
                          have HB10 := hide (show Below W.heap.size W (w8.setCell ⟨W.heap.size, t, none⟩ (.int .i64 (h' : Nat))) from by rw [← HW8.out]; exact below_set (i := t) HB8.out (Nat.le_refl _) (.int .i64 (h' : Nat)))
                          obtain ⟨z2, hz2'⟩ : ∃ z, atI o2 = z := ⟨_, rfl⟩
                          rw [hz2'] at hcn2 hway2
                          clear hrow10 hfit2 ho2 hz2' ht hfar0
                          rw [hw8] at x0' x1' x2'
                          rcases hway2 with hw2 | ⟨hw2, hwe2⟩
                          · clear hw8
                            rcases hj with h15 | h16
                            · have j1 : ((op : Int) == 15) = true := by simp; omega
                              have j2 : ((op : Int) = 15) = True := by simp; omega
                              clear h15
                              go_upto_region 20 with (fail)
                              rw [HW8.out]
                              go_wp2_with fail
                              go_roundw
                              case rel => exact ⟨i + 1, at8.set t (some h'), by simp, HGO.out, HROW10.out, HBD10.out, HB10.out⟩
                              case measure => simp [intOf]; omega
                            · have j1 : ((op : Int) == 15) = false := by simp; omega
                              have j2 : ((op : Int) = 15) = False := by simp; omega
                              have j3 : ((op : Int) == 16) = true := by simp; omega
                              have j4 : ((op : Int) = 16) = True := by simp; omega
                              clear h16
                              go_upto_region 20 with (fail)
                              rw [HW8.out]
                              go_wp2_with fail
                              go_roundw
                              case rel => exact ⟨i + 1, at8.set t (some h'), by simp, HGO.out, HROW10.out, HBD10.out, HB10.out⟩
                              case measure => simp [intOf]; omega
                          · clear hw8
                            rcases hj with h15 | h16
                            · have j1 : ((op : Int) == 15) = true := by simp; omega
                              have j2 : ((op : Int) = 15) = True := by simp; omega
                              clear h15
                              go_upto_region 20 with (fail)
                              rw [HW8.out]
                              go_wp2_with fail
                              go_roundw
                              case rel => exact ⟨i + 1, at8.set t (some h'), by simp, HGO.out, HROW10.out, HBD10.out, HB10.out⟩
                              case measure => simp [intOf]; omega
                            · have j1 : ((op : Int) == 15) = false := by simp; omega
                              have j2 : ((op : Int) = 15) = False := by simp; omega
                              have j3 : ((op : Int) == 16) = true := by simp; omega
                              have j4 : ((op : Int) = 16) = True := by simp; omega
                              clear h16
                              go_upto_region 20 with (fail)
                              rw [HW8.out]
                              go_wp2_with fail
                              go_roundw
                              case rel => exact ⟨i + 1, at8.set t (some h'), by simp, HGO.out, HROW10.out, HBD10.out, HB10.out⟩
                              case measure => simp [intOf]; omega
                        · have hne2 : 0 ≤ atI o2 ∧ (atI o2 == (h' : Int)) = false := by
                            cases o2 with
                            | none => exact absurd (.inl ho2) hfit2
                            | some g =>
                              refine ⟨by simp [atI], ?_⟩
                              simp only [atI, beq_eq_false_iff_ne, ne_eq]
                              intro e
                              exact hfit2 (.inr (by rw [ho2]; congr 2; omega))
                          have HBAD := hide (bad_jump HIV.out HX.out HQ8.out HEFF.out HJ.out (by rw [HT.out]; exact hfar) (by rw [HT.out]; exact hfit2))
                          obtain ⟨z2, hz2'⟩ : ∃ z, atI o2 = z := ⟨_, rfl⟩
                          rw [hz2'] at hcn2 hne2
                          obtain ⟨hn1, hn2⟩ := hne2
                          clear hfit2 ho2 hz2' ht
                          rw [hw8] at x0' x1' x2'
                          have HB8' := hide (show Below W.heap.size W w8 from by rw [← HW8.out]; exact HB8.out)
                          clear hw8
                          rcases hj with h15 | h16
                          · have j1 : ((op : Int) == 15) = true := by simp; omega
                            have j2 : ((op : Int) = 15) = True := by simp; omega
                            clear h15
                            go_upto_region 20 with (fail)
                            rw [HW8.out]
                            go_wp2_with fail
                            go_ret2
                            exact ⟨.inr ⟨HBAD.out, rfl⟩, (HB.out.trans (HB8'.out.mono hsW))⟩
                          · have j1 : ((op : Int) == 15) = false := by simp; omega
                            have j2 : ((op : Int) = 15) = False := by simp; omega
                            have j3 : ((op : Int) == 16) = true := by simp; omega
                            have j4 : ((op : Int) = 16) = True := by simp; omega
                            clear h16
                            go_upto_region 20 with (fail)
                            rw [HW8.out]
                            go_wp2_with fail
                            go_ret2
                            exact ⟨.inr ⟨HBAD.out, rfl⟩, (HB.out.trans (HB8'.out.mono hsW))⟩
                      · have hf1 : (c.length : Int) - i - 1 ≤ (OA : Int) := by omega
                        have HBAD := hide (bad_far HIV.out HX.out HQ8.out hj hfar)
                        rcases hj with h15 | h16
                        · have j1 : ((op : Int) == 15) = true := by simp; omega
                          have j2 : ((op : Int) = 15) = True := by simp; omega
                          clear h15
                          go_wp2_with fail
                          go_ret2
                          exact ⟨.inr ⟨HBAD.out, rfl⟩, (HB.out.trans (HB8.out.mono hsW))⟩
                        · have j1 : ((op : Int) == 15) = false := by simp; omega
                          have j2 : ((op : Int) = 15) = False := by simp; omega
                          have j3 : ((op : Int) == 16) = true := by simp; omega
                          have j4 : ((op : Int) = 16) = True := by simp; omega
                          clear h16
                          go_wp2_with fail
                          go_ret2
                          exact ⟨.inr ⟨HBAD.out, rfl⟩, (HB.out.trans (HB8.out.mono hsW))⟩
                    · have j1 : ((op : Int) == 15) = false := by simp; omega
                      have j2 : ((op : Int) = 15) = False := by simp; omega
                      have j3 : ((op : Int) == 16) = false := by simp; omega
                      have j4 : ((op : Int) = 16) = False := by simp; omega
                      have HGO := hide (go_next HIV.out HX.out HQ8.out HEFF.out HOPN.out H0.out hnl HNX.out (fun h => absurd h hj))
                      clear hj
                      go_wp2_with fail
                      go_roundw
                      case rel => exact ⟨i + 1, at8, by simp, HGO.out, HROW8.out, HBD8.out, HB8.out⟩
                      case measure => simp [intOf]; omega
                  · by_cases hj : op = 15 ∨ op = 16
                    · have HJ := hide hj
                      have hwd1 : IntKind.i64.wrap ((c.length : Int) - i) = (c.length : Int) - i := by rw [IntKind.wrap_i64]; omega
                      have hwd2 : IntKind.i64.wrap ((c.length : Int) - i - 1) = (c.length : Int) - i - 1 := by rw [IntKind.wrap_i64]; omega
                      have hwd3 : IntKind.u64.wrap ((c.length : Int) - i - 1) = (c.length : Int) - i - 1 := by rw [IntKind.wrap_u64]; omega
                      by_cases hfar : i + 1 + OA < c.length
                      · have hf1 : ¬ (c.length : Int) - i - 1 ≤ (OA : Int) := by omega
                        have hwa : IntKind.i64.wrap (OA : Int) = (OA : Int) := by rw [IntKind.wrap_i64]; omega
                        obtain ⟨t, ht⟩ : ∃ t, i + 1 + OA = t := ⟨_, rfl⟩
                        have hwb : IntKind.i64.wrap ((i : Int) + 1 + OA) = (t : Int) := by rw [IntKind.wrap_i64]; omega
                        rw [ht] at hfar
                        have hfar1 : (t : Int) < (c.length : Int) := by omega
                        have HT := hide ht
                        obtain ⟨o2, ho2⟩ : ∃ o, at8[t]? = some o := ⟨_, List.getElem?_eq_getElem (by rw [HLEN8.out]; exact hfar)⟩
                        have hcn2 : (w7.setCell ⟨W.heap.size, i + 1, none⟩ (.int .i64 (h' : Nat))).cell? ⟨W.heap.size, t, none⟩ = some (.int .i64 (atI o2)) := by rw [cell_at HROW8.out]; exact ats_get ho2
                        have hf2 := free_at HROW8.out t
                        obtain ⟨w8, hw8⟩ : ∃ w8, w7.setCell ⟨W.heap.size, i + 1, none⟩ (.int .i64 (h' : Nat)) = w8 := ⟨_, rfl⟩
                        have HW8 := hide hw8
                        rw [hw8] at hcn2 hf2
                        by_cases hfit2 : fits at8 t h'
                        · have hway2 : ¬ 0 ≤ atI o2 ∨ (0 ≤ atI o2 ∧ (atI o2 == (h' : Int)) = true) := by
                            rcases hfit2 with h | h
                            · rw [ho2] at h; obtain rfl := Option.some.inj h; exact .inl (by decide)
                            · rw [ho2] at h; obtain rfl := Option.some.inj h; exact .inr ⟨by simp [atI], by simp [atI]⟩
                          have HFT := hide (show fits at8 (i + 1 + OA) h' by rw [HT.out]; exact hfit2)
                          have hfar0 : i + 1 + OA < c.length := by rw [HT.out]; exact hfar
                          have HIJ := hide (lay_jump HIV.out HX.out HQ8.out HEFF.out HJ.out hfar0 HFT.out)
                          have HGO := hide (show Inv (sz P) c (at8.set t (some h')) (i + 1) from by rw [← HT.out]; exact go_next HIJ.out HX.out (set_keeps HFT.out HQ8.out) HEFF.out HOPN.out H0.out hnl (set_keeps HFT.out HNX.out) (fun _ => ⟨hfar0, set_now HFT.out⟩))
                          have HBD10 := hide (show ∀ k g : Nat, (at8.set t (some h'))[k]? = some (some g) → g ≤ i + 1 from fun k g hk => by
                            rw [set_get] at hk
                            split at hk
                            · split at hk
                              · simp at hk; have := HH'.out; omega
                              · cases hk
                            · exact HBD8.out k g hk)
                          have hrow10 := heap_set (i := t) HROW8.out (.int .i64 (h' : Nat))
                          rw [ats_set] at hrow10
                          have HROW10 := hide (show (w8.setCell ⟨W.heap.size, t, none⟩ (.int .i64 (h' : Nat))).heap[W.heap.size]? = some (.cells (ats (at8.set t (some h'))).toArray 3 (0, 0)) from by rw [← HW8.out]; exact hrow10)
                          have HB10 := hide (show Below W.heap.size W (w8.setCell ⟨W.heap.size, t, none⟩ (.int .i64 (h' : Nat))) from by rw [← HW8.out]; exact below_set (i := t) HB8.out (Nat.le_refl _) (.int .i64 (h' : Nat)))
                          obtain ⟨z2, hz2'⟩ : ∃ z, atI o2 = z := ⟨_, rfl⟩
                          rw [hz2'] at hcn2 hway2
                          clear hrow10 hfit2 ho2 hz2' ht hfar0
                          rw [hw8] at x0' x1' x2'
                          rcases hway2 with hw2 | ⟨hw2, hwe2⟩
                          · clear hw8
                            rcases hj with h15 | h16
                            · have j1 : ((op : Int) == 15) = true := by simp; omega
                              have j2 : ((op : Int) = 15) = True := by simp; omega
                              clear h15
                              go_upto_region 20 with (fail)
                              rw [HW8.out]
                              go_wp2_with fail
                              go_roundw
                              case rel => exact ⟨i + 1, at8.set t (some h'), by simp, HGO.out, HROW10.out, HBD10.out, HB10.out⟩
                              case measure => simp [intOf]; omega
                            · have j1 : ((op : Int) == 15) = false := by simp; omega
                              have j2 : ((op : Int) = 15) = False := by simp; omega
                              have j3 : ((op : Int) == 16) = true := by simp; omega
                              have j4 : ((op : Int) = 16) = True := by simp; omega
                              clear h16
                              go_upto_region 20 with (fail)
                              rw [HW8.out]
                              go_wp2_with fail
                              go_roundw
                              case rel => exact ⟨i + 1, at8.set t (some h'), by simp, HGO.out, HROW10.out, HBD10.out, HB10.out⟩
                              case measure => simp [intOf]; omega
                          · clear hw8
                            rcases hj with h15 | h16
                            · have j1 : ((op : Int) == 15) = true := by simp; omega
                              have j2 : ((op : Int) = 15) = True := by simp; omega
                              clear h15
                              go_upto_region 20 with (fail)
                              rw [HW8.out]
                              go_wp2_with fail
                              go_roundw
                              case rel => exact ⟨i + 1, at8.set t (some h'), by simp, HGO.out, HROW10.out, HBD10.out, HB10.out⟩
                              case measure => simp [intOf]; omega
                            · have j1 : ((op : Int) == 15) = false := by simp; omega
                              have j2 : ((op : Int) = 15) = False := by simp; omega
                              have j3 : ((op : Int) == 16) = true := by simp; omega
                              have j4 : ((op : Int) = 16) = True := by simp; omega
                              clear h16
                              go_upto_region 20 with (fail)
                              rw [HW8.out]
                              go_wp2_with fail
                              go_roundw
                              case rel => exact ⟨i + 1, at8.set t (some h'), by simp, HGO.out, HROW10.out, HBD10.out, HB10.out⟩
                              case measure => simp [intOf]; omega
                        · have hne2 : 0 ≤ atI o2 ∧ (atI o2 == (h' : Int)) = false := by
                            cases o2 with
                            | none => exact absurd (.inl ho2) hfit2
                            | some g =>
                              refine ⟨by simp [atI], ?_⟩
                              simp only [atI, beq_eq_false_iff_ne, ne_eq]
                              intro e
                              exact hfit2 (.inr (by rw [ho2]; congr 2; omega))
                          have HBAD := hide (bad_jump HIV.out HX.out HQ8.out HEFF.out HJ.out (by rw [HT.out]; exact hfar) (by rw [HT.out]; exact hfit2))
                          obtain ⟨z2, hz2'⟩ : ∃ z, atI o2 = z := ⟨_, rfl⟩
                          rw [hz2'] at hcn2 hne2
                          obtain ⟨hn1, hn2⟩ := hne2
                          clear hfit2 ho2 hz2' ht
                          rw [hw8] at x0' x1' x2'
                          have HB8' := hide (show Below W.heap.size W w8 from by rw [← HW8.out]; exact HB8.out)
                          clear hw8
                          rcases hj with h15 | h16
                          · have j1 : ((op : Int) == 15) = true := by simp; omega
                            have j2 : ((op : Int) = 15) = True := by simp; omega
                            clear h15
                            go_upto_region 20 with (fail)
                            rw [HW8.out]
                            go_wp2_with fail
                            go_ret2
                            exact ⟨.inr ⟨HBAD.out, rfl⟩, (HB.out.trans (HB8'.out.mono hsW))⟩
                          · have j1 : ((op : Int) == 15) = false := by simp; omega
                            have j2 : ((op : Int) = 15) = False := by simp; omega
                            have j3 : ((op : Int) == 16) = true := by simp; omega
                            have j4 : ((op : Int) = 16) = True := by simp; omega
                            clear h16
                            go_upto_region 20 with (fail)
                            rw [HW8.out]
                            go_wp2_with fail
                            go_ret2
                            exact ⟨.inr ⟨HBAD.out, rfl⟩, (HB.out.trans (HB8'.out.mono hsW))⟩
                      · have hf1 : (c.length : Int) - i - 1 ≤ (OA : Int) := by omega
                        have HBAD := hide (bad_far HIV.out HX.out HQ8.out hj hfar)
                        rcases hj with h15 | h16
                        · have j1 : ((op : Int) == 15) = true := by simp; omega
                          have j2 : ((op : Int) = 15) = True := by simp; omega
                          clear h15
                          go_wp2_with fail
                          go_ret2
                          exact ⟨.inr ⟨HBAD.out, rfl⟩, (HB.out.trans (HB8.out.mono hsW))⟩
                        · have j1 : ((op : Int) == 15) = false := by simp; omega
                          have j2 : ((op : Int) = 15) = False := by simp; omega
                          have j3 : ((op : Int) == 16) = true := by simp; omega
                          have j4 : ((op : Int) = 16) = True := by simp; omega
                          clear h16
                          go_wp2_with fail
                          go_ret2
                          exact ⟨.inr ⟨HBAD.out, rfl⟩, (HB.out.trans (HB8.out.mono hsW))⟩
                    · have j1 : ((op : Int) == 15) = false := by simp; omega
                      have j2 : ((op : Int) = 15) = False := by simp; omega
                      have j3 : ((op : Int) == 16) = false := by simp; omega
                      have j4 : ((op : Int) = 16) = False := by simp; omega
                      have HGO := hide (go_next HIV.out HX.out HQ8.out HEFF.out HOPN.out H0.out hnl HNX.out (fun h => absurd h hj))
                      clear hj
                      go_wp2_with fail
                      go_roundw
                      case rel => exact ⟨i + 1, at8, by simp, HGO.out, HROW8.out, HBD8.out, HB8.out⟩
                      case measure => simp [intOf]; omega
                · have hne : 0 ≤ atI o ∧ (atI o == (h' : Int)) = false := by
                    cases o with
                    | none => exact absurd (.inl ho) hfit
                    | some g =>
                      refine ⟨by simp [atI], ?_⟩
                      simp only [atI, beq_eq_false_iff_ne, ne_eq]
                      intro e
                      exact hfit (.inr (by rw [ho]; congr 2; omega))
                  obtain ⟨z, hz⟩ : ∃ z, atI o = z := ⟨_, rfl⟩
                  rw [hz] at hcn hne
                  obtain ⟨hn1, hn2⟩ := hne
                  have HBAD := hide (bad_next HI.out HX.out HQ.out HEFF.out hnl hfit)
                  clear hfit ho hz
                  go_wp2_with fail
                  go_ret2
                  exact ⟨.inr ⟨HBAD.out, rfl⟩, (HB.out.trans (HB7.out.mono hsW))⟩
end Go.Proofs.YtbimpoabiafdaaaDoor
