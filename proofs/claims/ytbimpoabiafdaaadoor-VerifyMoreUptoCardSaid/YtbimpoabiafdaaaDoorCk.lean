/- Check and Heights, the program's and the reference's -/
import Derived.Test.YtbimpoabiafdaaaDoorHt
import Derived.Test.YtbimpoabiafdaaaDoorRde
import Derived.Test.YtbimpoabiafdaaaDoorRwk
import Derived.Lib.LazyBuf
import Derived.Laws.ResultCell
import Derived.Laws.Rows
namespace Go.Proofs.YtbimpoabiafdaaaDoor
open Go.RowKit Vf
/-- what Check answers -/
def CkOut (P : Prg) (bad ok : Value) (e : Ending) : Prop :=
  match ans P with
  | none => e = .returned (.tuple #[.agg #[.int .i64 0, .int .i64 0], bad])
  | some H => e = .returned (.tuple #[.agg #[.int .i64 H.length, .int .i64 (mx H : Nat)], ok])
/-- what Heights answers -/
def HsOut (P : Prg) (bad ok : Value) (B : Nat) (e : Ending) (w' : World) : Prop :=
  match ans P with
  | none => e = .returned (.tuple #[.slice none 0 0, bad])
  | some H => ∃ g, B ≤ g ∧ e = .returned (.tuple #[.slice (some ⟨g, 0, none⟩) H.length H.length, ok]) ∧ w'.heap[g]? = some (.cells (nats H).toArray 3 (0, 0))
theorem results_cell2 {P : Program} {fn : Func} {p u : Tmp} {ty : TypeId} (h : fn.results = #[.cell p ty, .tmp u]) (tmps : Array Value) (w : World) (g : Nat) (t : TypeId) (cs : Array Value) (fr : Nat × Nat) (d : TypeDesc)
    (hp : tmps.getD p undef = .pointer (some ⟨g, 0, none⟩)) (hg : w.heap[g]? = some (.cells cs t fr))
    (hu : P.underlying ty = some d) (hd : (match d with | .struct _ | .array _ _ => true | _ => false) = true) (hi : (P.info? ty).map (·.size) = some cs.size) :
    (results fn tmps).run P w = .ok (.tuple #[.agg cs, tmps.getD u undef]) w := by
  rw [results_cell_tmp h, hp]
  simp [asAddr, run_loadVar_row w g t ty cs fr d hg hu hd hi, Result.andThen]
theorem size31 : (Tryd.prog.info? 31).map (·.size) = some 2 := by kernel_rfl
theorem prg_box {w : World} {va vc vn vd vb : Value} {P : Prg} (h : PrgAt w va vc vn vd vb P) (o : Obj) : PrgAt (w.alloc o) va vc vn vd vb P := h.keep ((Below.refl w.heap.size w).alloc (Nat.le_refl _) o)
set_option maxRecDepth 100000 in
set_option maxHeartbeats 4000000 in
theorem check_any (w : World) (T : TabAt w) (E : Nat → Addr) (hE0 : ErrAt w 0 (E 0)) (hE1 : ErrAt w 1 (E 1)) (hE2 : ErrAt w 2 (E 2)) (hg : 25 ≤ w.heap.size) (aa ac an ad ab : Option Addr) (ca cc cn cd cb : Nat) (al : Bool) (P : Prg) (hal : P.all = al)
    (hP : PrgAt w (.slice aa P.avgs.length ca) (.slice ac P.cur.length cc) (.slice an P.nears.length cn) (.slice ad P.drive.length cd) (.slice ab P.code.length cb) P) (hL : Little P 1099511627776) :
    Calls Tryd.prog 10 #[.agg #[.slice aa P.avgs.length ca, .slice ac P.cur.length cc, .slice an P.nears.length cn, .bool al, .slice ad P.drive.length cd, .slice ab P.code.length cb]] w fun e w' => CkOut P (.iface 108 (.pointer (some (E 0)))) .nilIface e ∧ Below w.heap.size w w' := by
  have hq1 := (Below.refl w.heap.size w).alloc (Nat.le_refl _) (.cells #[.slice aa P.avgs.length ca, .slice ac P.cur.length cc, .slice an P.nears.length cn, .bool al, .slice ad P.drive.length cd, .slice ab P.code.length cb] 27)
  have hq2 := hq1.alloc (by simp) (.cells #[.int .i64 0, .int .i64 0] 31)
  have HP := hide (hP.keep hq2)
  have HB := hide hq2
  have hsz : (w.alloc (.cells #[.slice aa P.avgs.length ca, .slice ac P.cur.length cc, .slice an P.nears.length cn, .bool al, .slice ad P.drive.length cd, .slice ab P.code.length cb] 27)).heap.size = w.heap.size + 1 := by simp
  have HR := hide (heap_new (w := w.alloc (.cells #[.slice aa P.avgs.length ca, .slice ac P.cur.length cc, .slice an P.nears.length cn, .bool al, .slice ad P.drive.length cd, .slice ab P.code.length cb] 27)) rfl (.cells #[.int .i64 0, .int .i64 0] 31))
  have hh := heap_old (heap_new (w := w) rfl (.cells #[.slice aa P.avgs.length ca, .slice ac P.cur.length cc, .slice an P.nears.length cn, .bool al, .slice ad P.drive.length cd, .slice ab P.code.length cb] 27)) (.cells #[.int .i64 0, .int .i64 0] 31)
  obtain ⟨p0, p1, p2, p3, p4, p5⟩ := cells6 hh
  have HT := hide T
  have HE0 := hide hE0
  have HE1 := hide hE1
  have HE2 := hide hE2
  have HL := hide hL
  have HAL := hide hal
  clear hq1 hq2 hP hh T hE0 hE1 hE2 hL hal
  go_enter Tryd.func10, Tryd.ntmps10
  go_wp2_with fail
  rw [hsz] at HR
  generalize (w.alloc (.cells #[.slice aa P.avgs.length ca, .slice ac P.cur.length cc, .slice an P.nears.length cn, .bool al, .slice ad P.drive.length cd, .slice ab P.code.length cb] 27)).alloc (.cells #[.int .i64 0, .int .i64 0] 31) = W at *
  have hsW := HB.out.size
  refine (heights_any W (tab_below HT.out HB.out (by omega)) E (err_below HE0.out HB.out (by omega)) (err_below HE1.out HB.out (by omega)) (err_below HE2.out HB.out (by omega)) (by omega) aa ac an ad ab ca cc cn cd cb al P HAL.out HP.out HL.out).mono ?_
  rintro e w1 ⟨hout, hb1⟩
  have HB1 := hide (HB.out.trans (hb1.mono hsW))
  have hs1 := HB1.out.size
  have hR1 := keepTy_below hb1 31 _ _ _ HR.out
  obtain ⟨r0, r1⟩ := cells2 hR1
  have f0 := free_at hR1 0
  have f1 := free_at hR1 1
  have HR1 := hide hR1
  clear hb1 p0 p1 p2 p3 p4 p5 hR1
  cases ha : ans P with
  | none =>
    rw [HtOut, ha] at hout
    subst hout
    have hE := err_below HE0.out HB1.out (by omega)
    unfold ErrAt at hE
    have HA := hide ha
    clear ha
    have hcmp := fun W => run_eql_slice_nil (P := Tryd.prog) W 22 3 none 0 0 Tryd.underlying22
    have h1 := heap_set (i := 0) HR1.out (.int .i64 0)
    have h2 := heap_set (i := 1) h1 (.int .i64 0)
    have HH3 := hide h2
    have HB3 := hide (below_set (i := 1) (below_set (i := 0) HB1.out (by omega : w.heap.size ≤ w.heap.size + 1) (.int .i64 0)) (by omega : w.heap.size ≤ w.heap.size + 1) (.int .i64 0))
    clear h1 h2
    go_wp2_with fail
    go_region
    all_goals
      go_wp2_with fail
      refine bodyPost_ret (results_cell2 rfl _ _ (w.heap.size + 1) 31 _ (0, 0) _ rfl HH3.out Tryd.underlying31 rfl size31) rfl ?_
      exact ⟨by rw [CkOut, HA.out] <;> rfl, HB3.out.drew⟩
  | some H =>
    rw [HtOut, ha] at hout
    obtain ⟨g, hg1, rfl, hrow⟩ := hout
    have HA := hide ha
    clear ha
    have hcmp := fun W => run_eql_slice_nil (P := Tryd.prog) W 22 3 (some ⟨g, 0, none⟩) H.length H.length Tryd.underlying22
    have h1 := heap_set (i := 0) HR1.out (.int .i64 (H.length : Nat))
    have h2 := heap_set (i := 1) h1 (.int .i64 (mx H : Nat))
    have HH3 := hide h2
    have HB3 := hide (below_set (i := 1) (below_set (i := 0) HB1.out (by omega : w.heap.size ≤ w.heap.size + 1) (.int .i64 (H.length : Nat))) (by omega : w.heap.size ≤ w.heap.size + 1) (.int .i64 (mx H : Nat)))
    clear h1 h2
    go_wp2_with fail
    refine bodyPost_ret (results_cell2 rfl _ _ (w.heap.size + 1) 31 _ (0, 0) _ rfl HH3.out Tryd.underlying31 rfl size31) rfl ?_
    exact ⟨by rw [CkOut, HA.out] <;> rfl, HB3.out⟩
set_option maxRecDepth 100000 in
set_option maxHeartbeats 4000000 in
theorem hts_any (w : World) (T : TabAt w) (E : Nat → Addr) (hE0 : ErrAt w 0 (E 0)) (hE1 : ErrAt w 1 (E 1)) (hE2 : ErrAt w 2 (E 2)) (hg : 25 ≤ w.heap.size) (aa ac an ad ab : Option Addr) (ca cc cn cd cb : Nat) (al : Bool) (P : Prg) (hal : P.all = al)
    (hP : PrgAt w (.slice aa P.avgs.length ca) (.slice ac P.cur.length cc) (.slice an P.nears.length cn) (.slice ad P.drive.length cd) (.slice ab P.code.length cb) P) (hL : Little P 1099511627776) :
    Calls Tryd.prog 12 #[.agg #[.slice aa P.avgs.length ca, .slice ac P.cur.length cc, .slice an P.nears.length cn, .bool al, .slice ad P.drive.length cd, .slice ab P.code.length cb]] w fun e w' => HsOut P (.iface 108 (.pointer (some (E 0)))) .nilIface w.heap.size e w' ∧ Below w.heap.size w w' := by
  have hq1 := (Below.refl w.heap.size w).alloc (Nat.le_refl _) (.cells #[.slice aa P.avgs.length ca, .slice ac P.cur.length cc, .slice an P.nears.length cn, .bool al, .slice ad P.drive.length cd, .slice ab P.code.length cb] 27)
  have HP := hide (hP.keep hq1)
  have HB := hide hq1
  have hh := heap_new (w := w) rfl (.cells #[.slice aa P.avgs.length ca, .slice ac P.cur.length cc, .slice an P.nears.length cn, .bool al, .slice ad P.drive.length cd, .slice ab P.code.length cb] 27)
  obtain ⟨p0, p1, p2, p3, p4, p5⟩ := cells6 hh
  have HT := hide T
  have HE0 := hide hE0
  have HE1 := hide hE1
  have HE2 := hide hE2
  have HL := hide hL
  have HAL := hide hal
  clear hq1 hP hh T hE0 hE1 hE2 hL hal
  go_enter Tryd.func12, Tryd.ntmps12
  go_wp2_with fail
  generalize w.alloc (.cells #[.slice aa P.avgs.length ca, .slice ac P.cur.length cc, .slice an P.nears.length cn, .bool al, .slice ad P.drive.length cd, .slice ab P.code.length cb] 27) = W at *
  have hsW := HB.out.size
  refine (heights_any W (tab_below HT.out HB.out (by omega)) E (err_below HE0.out HB.out (by omega)) (err_below HE1.out HB.out (by omega)) (err_below HE2.out HB.out (by omega)) (by omega) aa ac an ad ab ca cc cn cd cb al P HAL.out HP.out HL.out).mono ?_
  rintro e w1 ⟨hout, hb1⟩
  have HB1 := hide (HB.out.trans (hb1.mono hsW))
  have hs1 := HB1.out.size
  clear hb1 p0 p1 p2 p3 p4 p5
  cases ha : ans P with
  | none =>
    rw [HtOut, ha] at hout
    subst hout
    have hE := err_below HE0.out HB1.out (by omega)
    unfold ErrAt at hE
    have HA := hide ha
    clear ha
    have hcmp := fun W => run_eql_slice_nil (P := Tryd.prog) W 22 3 none 0 0 Tryd.underlying22
    go_wp2_with fail
    go_quiet (fail)
    go_wp2
    go_ret2
    exact ⟨by rw [HsOut, HA.out] <;> rfl, below_drewN HB1.out _⟩
  | some H =>
    rw [HtOut, ha] at hout
    obtain ⟨g, hg1, rfl, hrow⟩ := hout
    have HA := hide ha
    have HROW := hide hrow
    clear ha hrow
    have hcmp := fun W => run_eql_slice_nil (P := Tryd.prog) W 22 3 (some ⟨g, 0, none⟩) H.length H.length Tryd.underlying22
    go_wp2_with fail
    go_ret2
    exact ⟨by rw [HsOut, HA.out]; exact ⟨g, by omega, rfl, HROW.out⟩, HB1.out⟩
set_option maxRecDepth 100000 in
set_option maxHeartbeats 4000000 in
theorem ref_hts_any (w : World) (aa ac an ad ab : Option Addr) (ca cc cn cd cb : Nat) (al : Bool) (P : Prg) (hal : P.all = al)
    (hP : PrgAt w (.slice aa P.avgs.length ca) (.slice ac P.cur.length cc) (.slice an P.nears.length cn) (.slice ad P.drive.length cd) (.slice ab P.code.length cb) P) (hL : Little P 1099511627776) :
    Calls Tryd.prog 13 #[.agg #[.slice aa P.avgs.length ca, .slice ac P.cur.length cc, .slice an P.nears.length cn, .bool al, .slice ad P.drive.length cd, .slice ab P.code.length cb]] w fun e w' => HsOut P (.int .i64 21) (.int .i64 0) w.heap.size e w' ∧ Below w.heap.size w w' := by
  have hq1 := (Below.refl w.heap.size w).alloc (Nat.le_refl _) (.cells #[.slice aa P.avgs.length ca, .slice ac P.cur.length cc, .slice an P.nears.length cn, .bool al, .slice ad P.drive.length cd, .slice ab P.code.length cb] 27)
  have HP := hide (hP.keep hq1)
  have HB := hide hq1
  have hh := heap_new (w := w) rfl (.cells #[.slice aa P.avgs.length ca, .slice ac P.cur.length cc, .slice an P.nears.length cn, .bool al, .slice ad P.drive.length cd, .slice ab P.code.length cb] 27)
  obtain ⟨p0, p1, p2, p3, p4, p5⟩ := cells6 hh
  have HH := hide hh
  have HL := hide hL
  have l5 := hL.code
  have l1 := hL.avgs
  have l2 := hL.cur
  have l3 := hL.nears
  have HAL := hide hal
  clear hq1 hP hh hL hal
  go_enter Tryd.func13, Tryd.ntmps13
  go_wp2_with fail
  generalize w.alloc (.cells #[.slice aa P.avgs.length ca, .slice ac P.cur.length cc, .slice an P.nears.length cn, .bool al, .slice ad P.drive.length cd, .slice ab P.code.length cb] 27) = W at *
  have hsW := HB.out.size
  refine (ref_decode_any W _ P.code HP.out.code (by omega)).mono ?_
  rintro e w1 ⟨hout, hb1⟩
  have HB1 := hide (HB.out.trans (hb1.mono hsW))
  have hs1 := HB1.out.size
  have HP1 := hide (HP.out.keep hb1)
  have HH1 := hide (keepTy_below hb1 27 _ _ _ HH.out)
  clear hb1 p0 p1 p2 p3 p4 p5
  obtain ⟨p0, p1, p2, p3, p4, p5⟩ := cells6 HH1.out
  cases hd : dc P.code with
  | none =>
    rw [RefDecOut, hd] at hout
    subst hout
    have HA := hide (ans_none (P := P) (fun c hc _ => by rw [hd] at hc; cases hc))
    clear hd
    go_wp2_with fail
    go_ret2
    exact ⟨by rw [HsOut, HA.out] <;> rfl, HB1.out⟩
  | some c =>
    rw [RefDecOut, hd] at hout
    obtain ⟨vc, rfl, ho⟩ := hout
    have HD := hide hd
    have HFIT := hide (dc_fit hd).1
    have hcl := (dc_fit hd).2
    obtain ⟨aco, cco, rfl⟩ := inss_form (inown_inss ho)
    have HI1 := hide (inown_inss ho)
    clear hd ho
    by_cases hn0 : c.length = 0
    · have HA := hide (ans_none (P := P) (fun c' hc _ => by
        rintro ⟨H, hg⟩
        rw [HD.out] at hc
        obtain rfl := Option.some.inj hc
        exact absurd hg.2.1 (by omega)))
      have hnil : c = [] := List.eq_nil_of_length_eq_zero hn0
      clear hn0
      subst hnil
      go_wp2_with fail
      go_ret2
      exact ⟨by rw [HsOut, HA.out] <;> rfl, HB1.out⟩
    · have hn1 : ((c.length : Int) == 0) = false := by simp; intro h; exact hn0 (by rw [h]; rfl)
      have hn2 : ¬ c = [] := fun h => hn0 (by rw [h]; rfl)
      have hnpos : 0 < c.length := by omega
      have HTB := hide (ref_tables_any w1 aa ac an ad ab ca cc cn cd cb al P HAL.out HP1.out HL.out)
      go_wp2_with fail
      refine HTB.out.mono ?_
      rintro e w2 ⟨⟨b, rfl, hbt⟩, hb2⟩
      have HBT := hide hbt
      have HB2 := hide (HB1.out.trans (hb2.mono hs1))
      have hs2 := HB2.out.size
      have HI2 := hide (inss_keep HI1.out hb2)
      have HH2 := hide (keepTy_below hb2 27 _ _ _ HH1.out)
      clear hb2 hbt p0 p1 p2 p3 p4 p5 HTB
      obtain ⟨p0, p1, p2, p3, p4, p5⟩ := cells6 HH2.out
      cases b with
      | false =>
        have HA := hide (ans_none (P := P) (fun c' hc ht => by have := HBT.out.2 ht; simp at this))
        go_wp2_with fail
        go_ret2
        exact ⟨by rw [HsOut, HA.out] <;> rfl, HB2.out⟩
      | true =>
        have HTAB := hide (HBT.out.1 (by simp))
        have HWK := hide (ref_walk_any w2 aa ac an ad ab ca cc cn cd cb al P l1 l2 l3 c hnpos (by omega) HFIT.out aco cco HI2.out)
        go_wp2_with fail
        refine HWK.out.mono ?_
        rintro e w3 ⟨hout, hb3⟩
        have HB3 := hide (HB2.out.trans (hb3.mono hs2))
        clear hb3 HWK p0 p1 p2 p3 p4 p5
        rcases hout with ⟨H, hg, g, hgb, rfl, hrow⟩ | ⟨hbad, rfl⟩
        · have HA := hide (ans_some HD.out HTAB.out hg)
          have HROW := hide hrow
          clear hg hrow
          go_wp2_with fail
          go_ret2
          exact ⟨by rw [HsOut, HA.out]; exact ⟨g, by omega, rfl, HROW.out⟩, HB3.out⟩
        · have HA := hide (ans_none (P := P) (fun c' hc _ => by rw [HD.out] at hc; obtain rfl := Option.some.inj hc; exact hbad))
          clear hbad
          go_wp2_with fail
          go_ret2
          exact ⟨by rw [HsOut, HA.out] <;> rfl, HB3.out⟩
theorem mx_take {H : List Nat} {k h : Nat} (hk : H[k]? = some h) : mx (H.take (k + 1)) = max (mx (H.take k)) h := by
  rw [List.take_add_one, hk, Option.toList_some, mx_snoc]
theorem nats_get {H : List Nat} {k h : Nat} (hk : H[k]? = some h) : (nats H).toArray[k]? = some (.int .i64 (h : Nat)) := by simp [nats, hk]
set_option maxRecDepth 100000 in
set_option maxHeartbeats 4000000 in
theorem ref_check_any (w : World) (aa ac an ad ab : Option Addr) (ca cc cn cd cb : Nat) (al : Bool) (P : Prg) (hal : P.all = al)
    (hP : PrgAt w (.slice aa P.avgs.length ca) (.slice ac P.cur.length cc) (.slice an P.nears.length cn) (.slice ad P.drive.length cd) (.slice ab P.code.length cb) P) (hL : Little P 1099511627776) :
    Calls Tryd.prog 11 #[.agg #[.slice aa P.avgs.length ca, .slice ac P.cur.length cc, .slice an P.nears.length cn, .bool al, .slice ad P.drive.length cd, .slice ab P.code.length cb]] w fun e w' => CkOut P (.int .i64 21) (.int .i64 0) e ∧ Below w.heap.size w w' := by
  have hq1 := (Below.refl w.heap.size w).alloc (Nat.le_refl _) (.cells #[.slice aa P.avgs.length ca, .slice ac P.cur.length cc, .slice an P.nears.length cn, .bool al, .slice ad P.drive.length cd, .slice ab P.code.length cb] 27)
  have hq2 := hq1.alloc (by simp) (.cells #[.int .i64 0, .int .i64 0] 31)
  have HP := hide (hP.keep hq2)
  have HB := hide hq2
  have hsz : (w.alloc (.cells #[.slice aa P.avgs.length ca, .slice ac P.cur.length cc, .slice an P.nears.length cn, .bool al, .slice ad P.drive.length cd, .slice ab P.code.length cb] 27)).heap.size = w.heap.size + 1 := by simp
  have HR := hide (heap_new (w := w.alloc (.cells #[.slice aa P.avgs.length ca, .slice ac P.cur.length cc, .slice an P.nears.length cn, .bool al, .slice ad P.drive.length cd, .slice ab P.code.length cb] 27)) rfl (.cells #[.int .i64 0, .int .i64 0] 31))
  have hh := heap_old (heap_new (w := w) rfl (.cells #[.slice aa P.avgs.length ca, .slice ac P.cur.length cc, .slice an P.nears.length cn, .bool al, .slice ad P.drive.length cd, .slice ab P.code.length cb] 27)) (.cells #[.int .i64 0, .int .i64 0] 31)
  obtain ⟨p0, p1, p2, p3, p4, p5⟩ := cells6 hh
  have l5 := hL.code
  have HL := hide hL
  have HAL := hide hal
  clear hq1 hq2 hP hh hL hal
  go_enter Tryd.func11, Tryd.ntmps11
  go_wp2_with fail
  rw [hsz] at HR
  generalize (w.alloc (.cells #[.slice aa P.avgs.length ca, .slice ac P.cur.length cc, .slice an P.nears.length cn, .bool al, .slice ad P.drive.length cd, .slice ab P.code.length cb] 27)).alloc (.cells #[.int .i64 0, .int .i64 0] 31) = W at *
  have hsW := HB.out.size
  refine (ref_hts_any W aa ac an ad ab ca cc cn cd cb al P HAL.out HP.out HL.out).mono ?_
  rintro e w1 ⟨hout, hb1⟩
  have HB1 := hide (HB.out.trans (hb1.mono hsW))
  have hs1 := HB1.out.size
  have hR1 := keepTy_below hb1 31 _ _ _ HR.out
  obtain ⟨r0, r1⟩ := cells2 hR1
  have f0 := free_at hR1 0
  have f1 := free_at hR1 1
  have HR1 := hide hR1
  clear hb1 p0 p1 p2 p3 p4 p5 hR1
  cases ha : ans P with
  | none =>
    rw [HsOut, ha] at hout
    subst hout
    have HA := hide ha
    clear ha
    have h1 := heap_set (i := 0) HR1.out (.int .i64 0)
    have h2 := heap_set (i := 1) h1 (.int .i64 0)
    have HH3 := hide h2
    have HB3 := hide (below_set (i := 1) (below_set (i := 0) HB1.out (by omega : w.heap.size ≤ w.heap.size + 1) (.int .i64 0)) (by omega : w.heap.size ≤ w.heap.size + 1) (.int .i64 0))
    clear h1 h2
    go_wp2_with fail
    refine bodyPost_ret (results_cell2 rfl _ _ (w.heap.size + 1) 31 _ (0, 0) _ rfl HH3.out Tryd.underlying31 rfl size31) rfl ?_
    exact ⟨by rw [CkOut, HA.out] <;> rfl, HB3.out⟩
  | some H =>
    have hHL := (ans_len ha).2.1
    rw [HsOut, ha] at hout
    obtain ⟨g, hg1, rfl, hrow⟩ := hout
    have HA := hide ha
    have HROW := hide hrow
    clear ha hrow
    have h1 := heap_set (i := 0) HR1.out (.int .i64 (H.length : Nat))
    have h2 := heap_set (i := 1) h1 (.int .i64 (mx H : Nat))
    have HH3 := hide h2
    have HB3 := hide (below_set (i := 1) (below_set (i := 0) HB1.out (by omega : w.heap.size ≤ w.heap.size + 1) (.int .i64 (H.length : Nat))) (by omega : w.heap.size ≤ w.heap.size + 1) (.int .i64 (mx H : Nat)))
    clear h1 h2
    go_wp2_with fail
    go_loopw [6, 7] (fun m s wr => ∃ k : Nat, k ≤ H.length ∧ s = .int .i64 k ∧ m = .int .i64 (mx (H.take k) : Nat) ∧ wr = w1) (fun _ s _ => H.length - (intOf s).toNat)
    case atStart => exact ⟨0, by omega, rfl, rfl, rfl⟩
    case round =>
      obtain ⟨k, hk, rfl, rfl, rfl⟩ := hrel
      by_cases hlt : k < H.length
      · obtain ⟨h, hx⟩ : ∃ h, H[k]? = some h := ⟨_, List.getElem?_eq_getElem hlt⟩
        have hc : wr.cell? ⟨g, k, none⟩ = some (.int .i64 (h : Nat)) := by rw [cell_at HROW.out]; exact nats_get hx
        have HM := hide (mx_take hx)
        have hk1 : (k : Int) < (H.length : Int) := by omega
        clear hx
        by_cases hgt : mx (H.take k) < h
        · have hgt1 : ((mx (H.take k) : Nat) : Int) < (h : Int) := by omega
          have HE := hide (show mx (H.take (k + 1)) = h by have := HM.out; omega)
          clear hgt
          go_wp2_with fail
          exact ⟨⟨k + 1, by omega, by simp, by rw [HE.out], trivial⟩, by simp [intOf]; omega⟩
        · have hgt1 : ¬ ((mx (H.take k) : Nat) : Int) < (h : Int) := by omega
          have HE := hide (show mx (H.take (k + 1)) = mx (H.take k) by have := HM.out; omega)
          clear hgt
          go_wp2_with fail
          exact ⟨⟨k + 1, by omega, by simp, by rw [HE.out], trivial⟩, by simp [intOf]; omega⟩
      · obtain rfl : k = H.length := by omega
        have hm : H.take H.length = H := List.take_length
        rw [hm]
        go_wp2_with fail
        refine bodyPost_ret (results_cell2 rfl _ _ (w.heap.size + 1) 31 _ (0, 0) _ rfl HH3.out Tryd.underlying31 rfl size31) rfl ?_
        exact ⟨by rw [CkOut, HA.out] <;> rfl, HB3.out⟩
end Go.Proofs.YtbimpoabiafdaaaDoor
