/- the law's ways -/
import Derived.Test.YtbimpoabiafdaaaDoorRwk
import Derived.Test.YtbimpoabiafdaaaDoorWz
namespace Go.Proofs.YtbimpoabiafdaaaDoor
open Go.RowKit Vf
/-- how many marks are not set -/
def unmarked (w : World) (g : Nat) : Nat := match w.heap[g]? with
  | some (.cells cs _ _) => cs.toList.countP fun v => match v with | .bool false => true | _ => false
  | _ => 0
theorem unmarked_eq {w : World} {g1 g2 B : Nat} {hs : List Nat} {seen : List Bool} {v : Value} {todo : List Nat} (h : WayAt w g1 g2 B hs seen v todo) : unmarked w g2 = unseen seen := by
  unfold unmarked unseen
  rw [h.s]
  simp only [bools, List.countP_map, List.count]
  congr 1
  funext b
  cases b <;> rfl
theorem dn_last {T : Nat × Nat × Nat} {c : List Ins} {hs : List Nat} {seen : List Bool} {i q : Nat} {x : Ins} (hx : c[i]? = some x) (hq : hs[i]? = some q) (h0 : x.1 = 0) (h1 : q = 1) (hl : i + 1 = c.length) : Dn T c hs seen i :=
  ⟨x, q, q, hx, hq, by simp [opnd, h0], by simp [eff, h0, h1], ⟨fun _ => hl, fun _ => h0⟩, fun h => absurd h (by omega), fun h => absurd h (by omega)⟩
theorem eff_last {x : Ins} {q : Nat} (h0 : x.1 = 0) (h1 : q ≠ 1) : eff x q = none := by simp [eff, h0, h1]
def lenOf : Value → Nat
  | .slice _ n _ => n
  | _ => 0
theorem lenOf_eq {w : World} {g1 g2 B : Nat} {hs : List Nat} {seen : List Bool} {v : Value} {todo : List Nat} (h : WayAt w g1 g2 B hs seen v todo) : lenOf v = todo.length := by
  obtain ⟨ao, cap, rfl⟩ := wa_form h
  rfl
/-- what holds ahead of each round -/
structure WyInv (P : Prg) (c : List Ins) (W wr : World) (g1 g2 B : Nat) (hs : List Nat) (seen : List Bool) (v : Value) (todo : List Nat) : Prop where
  at_ : WayAt wr g1 g2 B hs seen v todo
  wv : Wv (sz P) c hs seen todo none
  len : todo.length + unseen seen ≤ c.length
  high : ∀ g ∈ hs, g + unseen seen ≤ c.length
  below : Below W.heap.size W wr
set_option maxRecDepth 100000 in
set_option maxHeartbeats 16000000 in
theorem ways_any (w : World) (aa ac an ad ab : Option Addr) (ca cc cn cd cb : Nat) (al : Bool) (P : Prg) (l1 : P.avgs.length ≤ 1099511627776) (l2 : P.cur.length ≤ 1099511627776) (l3 : P.nears.length ≤ 1099511627776)
    (c : List Ins) (hcl : c.length ≤ 1099511627776) (hfit : ∀ x ∈ c, Fit x) (aco : Option Addr) (cco : Nat) (hc : Inss w (.slice aco c.length cco) c) :
    Calls Tryd.prog 20 #[.agg #[.slice aa P.avgs.length ca, .slice ac P.cur.length cc, .slice an P.nears.length cn, .bool al, .slice ad P.drive.length cd, .slice ab P.code.length cb], .slice aco c.length cco] w fun e w' => WalkOut P c w.heap.size e w' ∧ Below w.heap.size w w' := by
  have hq1 := (Below.refl w.heap.size w).alloc (Nat.le_refl _) (.cells #[.slice aa P.avgs.length ca, .slice ac P.cur.length cc, .slice an P.nears.length cn, .bool al, .slice ad P.drive.length cd, .slice ab P.code.length cb] 27)
  have HB := hide hq1
  have HIW := hide (inss_keep hc hq1)
  have HFIT := hide hfit
  have HH := hide (heap_new (w := w) rfl (.cells #[.slice aa P.avgs.length ca, .slice ac P.cur.length cc, .slice an P.nears.length cn, .bool al, .slice ad P.drive.length cd, .slice ab P.code.length cb] 27))
  obtain ⟨i0, hi, hz0, hz1, hz2⟩ := info_parts info3
  obtain ⟨j0, hj, hy0, hy1, hy2⟩ := info_parts info4
  clear hq1 hc hfit
  go_enter Tryd.func20, Tryd.ntmps20
  go_upto_region 2 with (fail)
  generalize w.alloc (.cells #[.slice aa P.avgs.length ca, .slice ac P.cur.length cc, .slice an P.nears.length cn, .bool al, .slice ad P.drive.length cd, .slice ab P.code.length cb] 27) = W at *
  have hsW := HB.out.size
  have HWL := hide (heap_lt HH.out)
  go_wp2_with (at_make; first | refine wpList_make_full _ rfl (.tmp 19) (.tmp 19) 22 rfl W.heap.size 3 i0 (.int .i64 0) 1 Tryd.underlying22 hi hz0 hz1 _ _ _ _ c.length rfl rfl rfl rfl ?_ ?_ (Nat.le_refl _) ?_)
  case refine_1 => rw [hz2]; omega
  case refine_2 => unfold maxLen; omega
  intro w3 hown hg
  have HROW := hide (show w3.heap[W.heap.size]? = some (.cells (nats (List.replicate c.length 0)).toArray 3 (0, 0)) from by rw [← made_nats]; exact row_full' hown)
  have HB3 := hide (show Below W.heap.size W w3 from ⟨hg.os, hg.tape, hg.output, hg.size, fun k hk => hg.block k hk (fun e => by cases e)⟩)
  have h3s := heap_lt HROW.out
  clear hown hg
  go_wp2_with (at_make; first | refine wpList_make_full _ rfl (.tmp 21) (.tmp 21) 53 rfl w3.heap.size 4 j0 (.bool false) 1 Tryd.underlying53 hj hy0 hy1 _ _ _ _ c.length rfl rfl rfl rfl ?_ ?_ (Nat.le_refl _) ?_)
  case refine_1 => rw [hy2]; omega
  case refine_2 => unfold maxLen; omega
  intro w4 hown hg
  have HSEE := hide (show w4.heap[w3.heap.size]? = some (.cells (bools (List.replicate c.length false)).toArray 4 (0, 0)) from by rw [← made_bools]; exact row_full' hown)
  have hb4 : Below w3.heap.size w3 w4 := ⟨hg.os, hg.tape, hg.output, hg.size, fun k hk => hg.block k hk (fun e => by cases e)⟩
  have HROW4 := hide ((hb4.block _ h3s).trans HROW.out)
  have HB4 := hide (HB3.out.trans (hb4.mono HB3.out.size))
  have h4s := heap_lt HSEE.out
  clear hown hg hb4 HROW HB3
  by_cases hn : c.length = 0
  · have hn1 : ((c.length : Int) == 0) = true := by simp; exact List.eq_nil_of_length_eq_zero hn
    have HN := hide hn
    clear hn
    go_wp2_with fail
    go_ret2
    exact ⟨.inr ⟨fun ⟨H, hH⟩ => absurd HN.out (by have := hH.2.1; omega), rfl⟩, HB.out.trans (HB4.out.mono hsW)⟩
  · have hn1 : ((c.length : Int) == 0) = false := by simp; intro h; exact hn (by rw [h]; rfl)
    have hn2 : (0 : Int) < (c.length : Int) := by omega
    have hn3 : 0 < c.length := by omega
    clear hn
    go_upto_region 7 with (fail)
    have HA := hide (show WayAt (w4.alloc (.cells #[.int .i64 0] 3)) W.heap.size w3.heap.size w4.heap.size (List.replicate c.length 0) (List.replicate c.length false) (.slice (some ⟨w4.heap.size, 0, none⟩) 1 1) [0] from
      ⟨heap_old HROW4.out _, heap_old HSEE.out _, World.ownsRow_lit (base := w4.heap.size) (e := 3) (size := 1) w4 (nats [0]).toArray 1 (Nat.le_refl _) (by simp only [maxLen]; omega) rfl, by omega, by omega, h4s, by simp⟩)
    have HBW := hide (HB4.out.alloc HB4.out.size (.cells #[.int .i64 0] 3))
    generalize w4.alloc (.cells #[.int .i64 0] 3) = w5 at *
    generalize w4.heap.size = B at *
    generalize w3.heap.size = g2 at *
    have hci : w5.cell? ⟨g2, 0, none⟩ = some (.bool false) := by rw [cell_at HA.out.s]; exact bools_at (by simp [hn3])
    have hcf := free_at HA.out.s 0
    have HA2 := hide (wa_s HA.out 0 true)
    have HI := hide (show WyInv P c W (w5.setCell ⟨g2, 0, none⟩ (.bool true)) W.heap.size g2 B (List.replicate c.length 0) ((List.replicate c.length false).set 0 true) (.slice (some ⟨B, 0, none⟩) 1 1) [0] from by
      have hu := unseen_set (seen := List.replicate c.length false) (t := 0) (by simp [hn3])
      have hu2 : unseen (List.replicate c.length false) = c.length := by simp [unseen]
      exact ⟨HA2.out, wv_start _ _ hn3, by simp only [List.length_singleton]; omega, fun g hg => by
        have := List.eq_of_mem_replicate hg
        omega, below_set HBW.out (by omega) _⟩)
    go_wp2_with fail
    generalize w5.setCell ⟨g2, 0, none⟩ (.bool true) = w9 at HI ⊢
    clear HA HA2 hci hcf HBW
    go_loopw [9] (fun s wr => ∃ hs seen todo, WyInv P c W wr W.heap.size g2 B hs seen s todo) (fun s wr => lenOf s + unmarked wr g2)
    case atStart => exact ⟨_, _, _, HI.out⟩
    case round =>
      clear HI HROW4 HSEE HB4
      obtain ⟨hs, seen, todo, hI⟩ := hrel
      have HI := hide hI
      clear hI
      rcases List.eq_nil_or_concat todo with rfl | ⟨tl, i, rfl⟩
      · obtain ⟨ao, cap, rfl⟩ := wa_form HI.out.at_
        simp only [List.length_nil]
        go_wp2_with fail
        go_ret2
        exact ⟨.inl ⟨hs, wv_end HI.out.wv hn3, W.heap.size, hsW, by rw [HI.out.wv.hlen]; rfl, HI.out.at_.h⟩, HB.out.trans (HI.out.below.mono hsW)⟩
      · rw [List.concat_eq_append] at HI
        obtain ⟨g, cap, rfl, htop, hcap, hcm⟩ := wa_top HI.out.at_
        have hsi : seen[i]? = some true := HI.out.wv.todo_seen i (by simp)
        have hic : i < c.length := by have := get_lt hsi; rw [HI.out.wv.slen] at this; exact this
        obtain ⟨x, hx⟩ : ∃ x, c[i]? = some x := ⟨_, List.getElem?_eq_getElem hic⟩
        obtain ⟨q, hq⟩ : ∃ q, hs[i]? = some q := ⟨_, List.getElem?_eq_getElem (by rw [HI.out.wv.hlen]; exact hic)⟩
        have hqb := HI.out.high q (List.mem_of_getElem? hq)
        have HX := hide hx
        have HQ := hide hq
        have hfx := HFIT.out x (List.mem_of_getElem? hx)
        obtain ⟨adc, e, c0, c1, c2⟩ := inss_get (inss_keep HIW.out HI.out.below) hx
        subst e
        have HA := hide (wa_pop HI.out.at_)
        have HW := hide (wv_pop HI.out.wv)
        have hln := HI.out.len
        rw [List.length_append, List.length_singleton] at hln
        have HLN := hide hln
        have HHI := hide HI.out.high
        have HBL := hide HI.out.below
        obtain ⟨op, OA, OB⟩ := x
        simp only at c0 c1 c2
        have HFX := hide hfx
        have hop : op < 17 := hfx.1
        have hOA : OA < 18446744073709551616 := hfx.2.1
        have hw0 : IntKind.i64.wrap (((tl.length + 1 : Nat) : Int) - 1) = (tl.length : Int) := by rw [IntKind.wrap_i64]; omega
        have hi1 : (i : Int) < (c.length : Int) := by omega
        have htl : tl.length ≤ 1099511627776 := by omega
        have hq1 := (Below.refl wr.heap.size wr).alloc (Nat.le_refl _) (.cells #[.int .i64 op, .int .u64 OA, .int .u64 OB] 56)
        have HX5 := hide (heap_new (w := wr) rfl (.cells #[.int .i64 op, .int .u64 OA, .int .u64 OB] 56))
        have HA5 := hide (wa_keep HA.out hq1)
        have HB5 := hide (HBL.out.trans (hq1.mono HBL.out.size))
        have HUN := hide (unmarked_eq HA.out)
        have hwn : IntKind.i64.wrap ((c.length : Int) - 1) = (c.length : Int) - 1 := by rw [IntKind.wrap_i64]; omega
        clear HI hsi hx hq hfx hln HA HBL hq1
        go_upto_region 12 with (fail)
        clear htop c0 c1 c2
        generalize wr.alloc (.cells #[.int .i64 op, .int .u64 OA, .int .u64 OB] 56) = w5 at *
        generalize wr.heap.size = X at HX5 ⊢
        obtain ⟨x0, x1, x2⟩ := cells3 HX5.out
        by_cases h0 : op = 0
        · have h0i : ((op : Int) == 0) = true := by simp; omega
          by_cases hl : i + 1 = c.length
          · have hli : ((i : Int) == (c.length : Int) - 1) = true := by simp; omega
            have hci : w5.cell? ⟨W.heap.size, i, none⟩ = some (.int .i64 q) := by rw [cell_at HA5.out.h]; exact nats_at HQ.out
            have HL1 := hide hl
            have HO1 := hide h0
            clear hl h0
            by_cases hq1 : q = 1
            · have hq2 : ((q : Int) == 1) = true := by simp; omega
              have HQ1 := hide hq1
              clear hq1
              go_wp2_with fail
              exact ⟨⟨hs, seen, tl, HA5.out, wv_done HW.out (dn_last HX.out HQ.out HO1.out HQ1.out HL1.out), by have := HLN.out; omega, HHI.out, HB5.out⟩, by rw [unmarked_eq HA5.out, HUN.out]; simp only [lenOf]; omega⟩
            · have hq2 : ((q : Int) == 1) = false := by simp; omega
              have HQ1 := hide hq1
              clear hq1
              go_wp2_with fail
              go_ret2
              exact ⟨.inr ⟨wv_bad HW.out HX.out HQ.out (.inr (.inl (eff_last HO1.out HQ1.out))), rfl⟩, HB.out.trans (HB5.out.mono hsW)⟩
          · have hli : ((i : Int) == (c.length : Int) - 1) = false := by simp; omega
            have HL1 := hide hl
            have HO1 := hide h0
            clear hl h0
            go_wp2_with fail
            go_ret2
            exact ⟨.inr ⟨wv_bad HW.out HX.out HQ.out (.inr (.inr (.inl (fun h => HL1.out (h.1 HO1.out))))), rfl⟩, HB.out.trans (HB5.out.mono hsW)⟩
        · have h0i : ((op : Int) == 0) = false := by simp; omega
          by_cases hl : i + 1 = c.length
          · have hli : ((i : Int) == (c.length : Int) - 1) = true := by simp; omega
            have HL1 := hide hl
            have HO1 := hide h0
            clear hl h0
            go_wp2_with fail
            go_ret2
            exact ⟨.inr ⟨wv_bad HW.out HX.out HQ.out (.inr (.inr (.inl (fun h => HO1.out (h.2 HL1.out))))), rfl⟩, HB.out.trans (HB5.out.mono hsW)⟩
          · have hli : ((i : Int) == (c.length : Int) - 1) = false := by simp; omega
            have hlt : i + 1 < c.length := by omega
            have HO1 := hide h0
            clear hl h0
            go_upto_region 17 with (fail)
            have hci : w5.cell? ⟨W.heap.size, i, none⟩ = some (.int .i64 q) := by rw [cell_at HA5.out.h]; exact nats_at HQ.out
            obtain ⟨p0, p1, p2, p3, p4, p5⟩ := cells6 ((HB5.out.block _ HWL.out).trans HH.out)
            have HEF := hide (show Calls Tryd.prog 21 #[.agg #[.slice aa P.avgs.length ca, .slice ac P.cur.length cc, .slice an P.nears.length cn, .bool al, .slice ad P.drive.length cd, .slice ab P.code.length cb], .agg #[.int .i64 op, .int .u64 OA, .int .u64 OB], .int .i64 q] w5.drew _ from step_any w5.drew aa ac an ad ab _ _ _ _ _ ca cc cn cd cb al l1 l2 l3 (op, OA, OB) HFX.out q (by omega))
            have hs5 := HB5.out.size
            go_cut [12, 13] (fun s12 s13 wx => ∃ (z : Int) (b : Bool), s12 = .int .i64 z ∧ s13 = .bool b ∧ (match stp (sz P) (op, OA, OB) q with | some h' => b = true ∧ z = (h' : Int) | none => b = false) ∧ Below w5.heap.size w5 wx)
            case first =>
              go_region_with
                (first
                  | (go_at_call 21
                     refine HEF.out.mono ?_
                     rintro e w6 ⟨⟨z, b, rfl, hz⟩, hb6⟩))
              all_goals (go_wp2_with fail; go_meet; exact ⟨z, b, rfl, rfl, hz, (Below.refl w5.heap.size w5).drew.trans hb6⟩)
            case rest =>
            obtain ⟨z, b, rfl, rfl, hz, hb6⟩ := hcut
            have HB6 := hide (HB5.out.trans (hb6.mono hs5))
            have HA6 := hide (wa_keep HA5.out hb6)
            have HX6 := hide ((hb6.block _ (heap_lt HX5.out)).trans HX5.out)
            clear hb6 HEF HX5 HA5 HB5 x0 x1 x2 hci p0 p1 p2 p3 p4 p5
            obtain ⟨x0, x1, x2⟩ := cells3 HX6.out
            cases hst : stp (sz P) (op, OA, OB) q with
            | none =>
              rw [hst] at hz
              subst hz
              have HBAD := hide (wv_bad HW.out HX.out HQ.out (by
                rcases stp_none hst HO1.out with h | h
                · exact .inl h
                · exact .inr (.inl h)))
              clear hst
              go_wp2_with fail
              go_ret2
              exact ⟨.inr ⟨HBAD.out, rfl⟩, HB.out.trans (HB6.out.mono hsW)⟩
            | some h' =>
              rw [hst] at hz
              obtain ⟨rfl, rfl⟩ := hz
              have HST := hide (stp_some hst)
              have hwi : IntKind.i64.wrap ((i : Int) + 1) = (i : Int) + 1 := by rw [IntKind.wrap_i64]; omega
              clear hst
              go_upto_region 21 with (fail)
              have hq1 := (Below.refl wc.heap.size wc).alloc (Nat.le_refl _) (.cells #[.int .i64 ((i : Int) + 1)] 3)
              have HS7 := hide (heap_new (w := wc) rfl (.cells #[.int .i64 ((i : Int) + 1)] 3))
              have HA7 := hide (wa_keep HA6.out hq1)
              have HB7 := hide (HB6.out.trans (hq1.mono HB6.out.size))
              have HX7 := hide ((hq1.block _ (heap_lt HX6.out)).trans HX6.out)
              have HG1Y := hide (show W.heap.size < wc.heap.size from heap_lt HA6.out.h)
              have HG2Y := hide (show g2 < wc.heap.size from heap_lt HA6.out.s)
              have HOWN := hide (show ∀ k, (Value.slice (some ⟨g, 0, none⟩) tl.length cap).ownBlock = some k → k < wc.heap.size from fun k hk => (World.ownsRow.lt HA6.out.t k hk).2)
              clear hq1 HA6 HB6 HX6 x0 x1 x2
              generalize wc.alloc (.cells #[.int .i64 ((i : Int) + 1)] 3) = w7 at *
              generalize wc.heap.size = Y at HS7 HG1Y HG2Y HOWN ⊢
              obtain ⟨x0, x1, x2⟩ := cells3 HX7.out
              go_cut [84] (fun s wx => (∃ jb : Bool, s = .bool jb ∧ (jb = true ↔ (op = 15 ∨ op = 16))) ∧ w7 = wx)
              case first =>
                by_cases h15 : op = 15
                · have h15i : ((op : Int) == 15) = true := by simp; omega
                  have H15 := hide h15
                  clear h15
                  go_wp2_with fail
                  go_meet
                  exact ⟨⟨true, rfl, ⟨fun _ => .inl H15.out, fun _ => rfl⟩⟩, by first | rfl | trivial⟩
                · have h15i : ((op : Int) == 15) = false := by simp; omega
                  by_cases h16 : op = 16
                  · have h16i : ((op : Int) == 16) = true := by simp; omega
                    have H16 := hide h16
                    have H15 := hide h15
                    clear h15 h16
                    go_wp2_with fail
                    go_meet
                    exact ⟨⟨true, rfl, ⟨fun _ => .inr H16.out, fun _ => rfl⟩⟩, by first | rfl | trivial⟩
                  · have h16i : ((op : Int) == 16) = false := by simp; omega
                    have H16 := hide h16
                    have H15 := hide h15
                    clear h15 h16
                    go_wp2_with fail
                    go_meet
                    exact ⟨⟨false, rfl, ⟨fun k => (by cases k), fun k => k.elim (fun k => absurd k H15.out) (fun k => absurd k H16.out)⟩⟩, by first | rfl | trivial⟩
              case rest =>
              obtain ⟨⟨jb, rfl, hjb⟩, rfl⟩ := hcut
              have HJ := hide hjb
              clear hjb
              have hYl := heap_lt HS7.out
              have hg1Y : W.heap.size < Y := HG1Y.out
              have hg2Y : g2 < Y := HG2Y.out
              have HV0 := hide (show ∀ k, (Value.slice (some ⟨g, 0, none⟩) tl.length cap).ownBlock = some k → k < Y from HOWN.out)
              go_upto_if 84 with (fail)
              go_cut [14] (fun s wx => ∃ Y' n' cap' ts, s = .slice (some ⟨Y', 0, none⟩) n' cap' ∧ (n' ≤ ts.length ∧ ts.length ≤ n') ∧ n' ≤ cap' ∧ cap' ≤ 9223372036854775807 ∧ n' ≤ 2 ∧ Succ c (op, OA, OB) i ts ∧ TsAt wx Y' W.heap.size g2 (.slice (some ⟨g, 0, none⟩) tl.length cap) ts ∧ Below Y w7 wx)
              case first =>
                cases jb with
                | false =>
                  go_wp2_with fail
                  go_meet
                  exact ⟨Y, 1, 1, [i + 1], rfl, ⟨by simp, by simp⟩, Nat.le_refl _, by omega, by omega, .inl ⟨rfl, fun k => by have := HJ.out.2 k; cases this⟩, ts_one HV0.out hg1Y hg2Y HS7.out, Below.refl _ _⟩
                | true =>
                  have hul : IntKind.u64.wrap (c.length : Int) = (c.length : Int) := by rw [IntKind.wrap_u64]; omega
                  by_cases hfar : i + 1 + OA < c.length
                  · have hfa : ¬ (c.length : Int) < (OA : Int) := by omega
                    have hwo : IntKind.i64.wrap (OA : Int) = (OA : Int) := by rw [IntKind.wrap_i64]; omega
                    obtain ⟨f, hf⟩ : ∃ f, i + 1 + OA = f := ⟨_, rfl⟩
                    have hwf : IntKind.i64.wrap ((i : Int) + 1 + (OA : Int)) = (f : Int) := by rw [IntKind.wrap_i64]; omega
                    have hff : ¬ (c.length : Int) ≤ (f : Int) := by omega
                    have HF := hide hf
                    have HFAR := hide hfar
                    clear hf hfar
                    go_wp2_with (at_builtin; refine append_ts _ Y W.heap.size g2 w7.heap.size _ (i + 1) f rfl (.tmp 100) (.tmp 107) rfl rfl rfl (by rw [show ((i + 1 : Nat) : Int) = (i : Int) + 1 by omega]; exact heap_old HS7.out _) (heap_new rfl _) hg1Y hg2Y HV0.out ?_)
                    intro G capG wG htsG hcG hcG2 hbG
                    have HTSG := hide htsG
                    have HBG := hide hbG
                    clear htsG hbG
                    go_wp2_with fail
                    go_meet
                    exact ⟨G, 2, capG, [i + 1, f], rfl, ⟨by simp, by simp⟩, hcG, hcG2, by omega, .inr ⟨by rw [HF.out], HJ.out.1 (by first | rfl | trivial), HFAR.out⟩, HTSG.out, ((Below.refl Y w7).alloc (Nat.le_of_lt hYl) _).trans HBG.out⟩
                  · have hbad := wv_bad HW.out HX.out HQ.out (.inr (.inr (.inr ⟨HJ.out.1 (by first | rfl | trivial), hfar⟩)))
                    have HBAD := hide hbad
                    clear hbad
                    by_cases hfa : c.length < OA
                    · have hfa1 : (c.length : Int) < (OA : Int) := by omega
                      clear hfar hfa
                      go_wp2_with fail
                      go_ret2
                      exact ⟨.inr ⟨HBAD.out, rfl⟩, HB.out.trans (HB7.out.mono hsW)⟩
                    · have hfa1 : ¬ (c.length : Int) < (OA : Int) := by omega
                      have hwo : IntKind.i64.wrap (OA : Int) = (OA : Int) := by rw [IntKind.wrap_i64]; omega
                      obtain ⟨f, hf⟩ : ∃ f, i + 1 + OA = f := ⟨_, rfl⟩
                      have hwf : IntKind.i64.wrap ((i : Int) + 1 + (OA : Int)) = (f : Int) := by rw [IntKind.wrap_i64]; omega
                      have hff : (c.length : Int) ≤ (f : Int) := by omega
                      clear hf hfar hfa
                      go_wp2_with fail
                      go_ret2
                      exact ⟨.inr ⟨HBAD.out, rfl⟩, HB.out.trans (HB7.out.mono hsW)⟩
              case rest =>
              obtain ⟨Y', n', cap', ts, rfl, hnt, hcp, hcm2, hn2, hSU, hTS, hBY⟩ := hcut
              have hs7 := HB7.out.size
              have HSU := hide hSU
              have HA8 := hide (wa_keepY HA7.out hBY hg1Y hg2Y HV0.out)
              have HB8 := hide (HB7.out.trans (hBY.mono (by omega)))
              have HIN := hide (wyin_start (h' := h') (ts := ts) HA8.out HW.out rfl HHI.out HQ.out HB8.out)
              have HTS := hide hTS
              have HLE := hide (eff_lt HST.out.2.2 HST.out.2.1)
              have HNT := hide hnt
              obtain ⟨M, hM⟩ : ∃ M, tl.length + unseen seen = M := ⟨_, rfl⟩
              rw [hM] at HIN
              have HM := hide hM
              have hMl : M + 1 ≤ c.length := by have := HLN.out; omega
              clear hSU hTS hBY hnt hM HA7 HA8 HB7 HB8 HX7 x0 x1 x2 HS7 hYl
              obtain ⟨wo, rfl⟩ : ∃ wo : World, wo = wr := ⟨_, rfl⟩
              go_wp2_with fail
              go_loopw [9, 111] (fun s k wr => ∃ hs seen todo j, WyIn P c W wr W.heap.size g2 B hs seen s todo i q h' M ts j ∧ k = .int .i64 (j : Nat) ∧ j ≤ n' ∧ TsAt wr Y' W.heap.size g2 s ts) (fun _ k _ => n' - (intOf k).toNat)
              case atStart => exact ⟨hs, seen, tl, 0, HIN.out, rfl, by omega, HTS.out⟩
              case round => as_aux_lemma =>
                obtain ⟨hs2, seen2, todo2, j, hin, rfl, hj, hts⟩ := hrel
                have HIN2 := hide hin
                have HTS2 := hide hts
                clear hin hts HIN HTS
                by_cases hjn : j < n'
                · obtain ⟨t, ht⟩ : ∃ t, ts[j]? = some t := ⟨_, List.getElem?_eq_getElem (by have := HNT.out.1; omega)⟩
                  have HT := hide ht
                  have HGO := hide (succ_goal HIN2.out.wv HX.out HIN2.out.hq HST.out.2 hlt HSU.out ht)
                  have htc : t < c.length := HGO.out.1
                  have hct := tsat_cell HTS2.out ht
                  have hj1 : (j : Int) < (n' : Int) := by omega
                  have htc1 : (t : Int) < (c.length : Int) := by omega
                  obtain ⟨b, hb⟩ : ∃ b, seen2[t]? = some b := ⟨_, List.getElem?_eq_getElem (by rw [HIN2.out.wv.slen]; exact htc)⟩
                  have HSB := hide hb
                  have hcs : wr.cell? ⟨g2, t, none⟩ = some (.bool b) := by rw [cell_at HIN2.out.at_.s]; exact bools_at hb
                  clear ht hb
                  cases b with
                  | false =>
                    have hf2 := free_at HIN2.out.at_.s t
                    go_upto_region 30 with (fail)
                    have HA9 := hide (wa_s HIN2.out.at_ t true)
                    have HB9 := hide (below_set HIN2.out.below (show W.heap.size ≤ g2 by omega) (i := t) (.bool true))
                    have HTS9 := hide (tsat_set HTS2.out (.inr rfl) t (.bool true))
                    clear hct hcs hf2
                    generalize wr.setCell ⟨g2, t, none⟩ (.bool true) = w9 at *
                    have hf1 := free_at HA9.out.h t
                    obtain ⟨z1, hz1⟩ : ∃ z, hs2[t]? = some z := ⟨_, List.getElem?_eq_getElem (by rw [HIN2.out.wv.hlen]; exact htc)⟩
                    have hc1 : w9.cell? ⟨W.heap.size, t, none⟩ = some (.int .i64 (z1 : Nat)) := by rw [cell_at HA9.out.h]; exact nats_at hz1
                    clear hz1
                    go_upto_region 31 with (fail)
                    have HA10 := hide (wa_h HA9.out t h')
                    have HB10 := hide (below_set HB9.out (Nat.le_refl W.heap.size) (i := t) (.int .i64 (h' : Nat)))
                    have HTS10 := hide (tsat_set HTS9.out (.inl rfl) t (.int .i64 (h' : Nat)))
                    clear hf1 hc1 HA9 HB9 HTS9
                    generalize w9.setCell ⟨W.heap.size, t, none⟩ (.int .i64 (h' : Nat)) = w10 at *
                    have hq1 := (Below.refl w10.heap.size w10).alloc (Nat.le_refl _) (.cells #[.int .i64 (t : Nat)] 3)
                    have HA11 := hide (wa_keep HA10.out hq1)
                    have HB11 := hide (HB10.out.trans (hq1.mono HB10.out.size))
                    have HTS11 := hide (tsat_keep HTS10.out hq1)
                    have htl2 : todo2.length ≤ 1099511627776 := by have := HIN2.out.sum; omega
                    obtain ⟨ao2, cp2, e2⟩ := wa_form HA10.out
                    subst e2
                    clear hq1 HA10 HB10 HTS10
                    go_wp2_with (at_builtin; refine append_nat _ W.heap.size g2 B w10.heap.size _ _ _ todo2 t rfl (.tmp 127) (.tmp 129) rfl rfl rfl HA11.out (heap_new rfl _) htl2 ?_)
                    intro v' w12 ha12 hb12 hg12 hat12
                    have HIN3 := hide (wyin_new HIN2.out HT.out HSB.out HGO.out.2 HLE.out ha12 (HB11.out.trans (hb12.mono (by have := HIN2.out.at_.l1; omega))))
                    have HTS12 := hide (tsat_grown (v' := v') HTS11.out hg12 (by rw [World.size_alloc]; exact hat12))
                    clear ha12 hb12 hg12 hat12 HA11 HB11 HTS11
                    go_wp2_with fail
                    exact ⟨⟨_, _, _, j + 1, HIN3.out, by simp, by omega, HTS12.out⟩, by simp [intOf]; omega⟩
                  | true =>
                    obtain ⟨z1, hz1⟩ : ∃ z, hs2[t]? = some z := ⟨_, List.getElem?_eq_getElem (by rw [HIN2.out.wv.hlen]; exact htc)⟩
                    have hc1 : wr.cell? ⟨W.heap.size, t, none⟩ = some (.int .i64 (z1 : Nat)) := by rw [cell_at HIN2.out.at_.h]; exact nats_at hz1
                    by_cases hzh : z1 = h'
                    · subst hzh
                      have HIN3 := hide (wyin_old HIN2.out HT.out HSB.out hz1)
                      clear hz1
                      go_wp2_with fail
                      exact ⟨⟨_, _, _, j + 1, HIN3.out, by simp, by omega, HTS2.out⟩, by simp [intOf]; omega⟩
                    · have hzi : ((z1 : Int) == (h' : Int)) = false := by simp; omega
                      have HBAD := hide (wv_clash HIN2.out.wv t h' z1 HSB.out hz1 hzh HGO.out.2)
                      clear hz1 hzh
                      go_wp2_with fail
                      go_ret2
                      exact ⟨.inr ⟨HBAD.out, rfl⟩, HB.out.trans (HIN2.out.below.mono hsW)⟩
                · have hje : ¬ (j : Int) < (n' : Int) := by omega
                  have HWE := hide (wyin_end HIN2.out (by have := HNT.out.2; omega) HX.out HST.out.2 HST.out.1 hlt HSU.out)
                  clear hjn
                  go_wp2_with fail
                  exact ⟨⟨hs2, seen2, todo2, HIN2.out.at_, HWE.out, by have := HIN2.out.sum; omega, HIN2.out.high, HIN2.out.below⟩, by rw [unmarked_eq HIN2.out.at_, lenOf_eq HIN2.out.at_, HUN.out]; simp only [lenOf]; have := HIN2.out.sum; have := HM.out; omega⟩
end Go.Proofs.YtbimpoabiafdaaaDoor
