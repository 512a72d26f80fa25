/- texts of this proof, one behind the other: Rh Rj -/
import Derived.Test.YtmkbbekeimnajaaDoorMPlays0
import Derived.Test.YtmkbbekeimnajaaDoorMPlays1
import Derived.Test.YtmkbbekeimnajaaDoorMPlays2
import Derived.Test.YtmkbbekeimnajaaDoorMPlays3
import Derived.Test.YtmkbbekeimnajaaDoorMPlays4
import Derived.Test.YtmkbbekeimnajaaDoorMPlays5
import Derived.Test.YtmkbbekeimnajaaDoorMPlays6
import Derived.Test.YtmkbbekeimnajaaDoorMPlays7
import Derived.Test.YtmkbbekeimnajaaDoorMPlays8
import Derived.Test.YtmkbbekeimnajaaDoorMPlays9
import Derived.Test.YtmkbbekeimnajaaDoorMPlays10
import Derived.Test.YtmkbbekeimnajaaDoorMPlays11
import Derived.Test.YtmkbbekeimnajaaDoorMPlays12
import Derived.Deep.RegionHeldLaw
import Derived.Deep.OwnRows
import Derived.StillTailTactics
/-! Rh: the document's Clone Not Put Join -/
namespace Go.Proofs.YtmkbbekeimnajaaDoor
open Go.RowKit Ds
def prt (f : Nat → Bool) (k : Nat) : Nat → Bool := fun i => decide (i < k) && f i
theorem prt_zero (f : Nat → Bool) : prt f 0 = fun _ => false := by
  funext i
  unfold prt
  rw [decide_eq_false (by omega)]
  rfl
theorem prt_succ (f : Nat → Bool) (k : Nat) : put (prt f k) k (f k) = prt f (k + 1) := by
  funext i
  unfold put prt
  by_cases e : i = k
  · subst e
    rw [if_pos rfl, decide_eq_true (by omega)]
    rfl
  · rw [if_neg e]
    by_cases h : i < k
    · rw [decide_eq_true h, decide_eq_true (show i < k + 1 by omega)]
    · rw [decide_eq_false h, decide_eq_false (show ¬ i < k + 1 by omega)]
theorem prt_all (f : Nat → Bool) (n : Nat) : ∀ i, i < n → prt f n i = f i := fun i hi => by
  unfold prt
  rw [decide_eq_true hi]
  rfl
theorem make_bools (n : Nat) (hn : n ≤ 1048576) (W : World) : (Instr.makeSlice 52 (.int .i64 (n : Nat)) (.int .i64 (n : Nat))).run Tryd.prog W = .ok (.slice (some ⟨W.heap.size, 0, none⟩) n n) (W.alloc (.cells (madeCells #[.bool false] n) 4)) :=
  run_make_row' (P := Tryd.prog) 52 4 (.bool false) 1 Tryd.underlying52 info4 rfl .i64 .i64 n (by omega) (by omega) W
/-- a set under way beside another -/
structure CSt (w : World) (b Z g n : Nat) (m : Nat → Bool) (T g2 : Nat) (m2 : Nat → Bool) (wr : World) : Prop where
  src : ROwn wr g n m
  box : wr.heap[b]? = some (refBox g n)
  res : wr.heap[Z]? = some noBox
  tb : wr.heap[T]? = some (refBox g2 n)
  dst : ROwn wr g2 n m2
  new : w.heap.size ≤ g2 ∧ w.heap.size ≤ Z
  ne : g ≠ g2
  below : Below w.heap.size w wr
theorem noteq {w : World} {p q : Nat} {c1 c2 : Array Value} {t1 t2 : TypeId} {f1 f2 : Nat × Nat} (h1 : w.heap[p]? = some (.cells c1 t1 f1)) (h2 : w.heap[q]? = some (.cells c2 t2 f2)) (h : t1 ≠ t2) : p ≠ q := by
  rintro rfl
  rw [h1] at h2
  simp only [Option.some.injEq, Obj.cells.injEq] at h2
  exact h h2.2.1
theorem CSt.put {w wr : World} {b Z g n T g2 : Nat} {m m2 : Nat → Bool} (h : CSt w b Z g n m T g2 m2 wr) (i : Nat) (x : Bool) : CSt w b Z g n m T g2 (put m2 i x) (wr.setCell ⟨g2, i, none⟩ (.bool x)) :=
  ⟨heap_else h.src h.ne _, heap_else h.box (noteq h.box h.dst (by decide)) _, heap_else h.res (noteq h.res h.dst (by decide)) _, heap_else h.tb (noteq h.tb h.dst (by decide)) _, h.dst.put i x, h.new, h.ne, below_set h.below h.new.1 _⟩
theorem CSt.nz {w wr : World} {b Z g n T g2 : Nat} {m m2 : Nat → Bool} (h : CSt w b Z g n m T g2 m2 wr) : T ≠ Z ∧ b ≠ Z := by
  have hr := h.res
  constructor
  · rintro rfl
    have := h.tb
    rw [hr] at this
    simp at this
  · rintro rfl
    have := h.box
    rw [hr] at this
    simp at this
theorem CSt.res2 {w wr : World} {b Z g n T g2 : Nat} {m m2 : Nat → Bool} (h : CSt w b Z g n m T g2 m2 wr) (x y : Value) {i : Nat} (hi : i < n) :
    ((wr.setCell ⟨Z, 0, none⟩ x).setCell ⟨Z, 1, none⟩ y).cell? ⟨T, 0, none⟩ = some (.int .i64 (n : Nat)) ∧ ((wr.setCell ⟨Z, 0, none⟩ x).setCell ⟨Z, 1, none⟩ y).cell? ⟨T, 1, none⟩ = some (.slice (some ⟨g2, 0, none⟩) n n) ∧
      ((wr.setCell ⟨Z, 0, none⟩ x).setCell ⟨Z, 1, none⟩ y).cell? ⟨b, 1, none⟩ = some (.slice (some ⟨g, 0, none⟩) n n) ∧ ((wr.setCell ⟨Z, 0, none⟩ x).setCell ⟨Z, 1, none⟩ y).cell? ⟨g, i, none⟩ = some (.bool (m i)) := by
  obtain ⟨h1, h2⟩ := h.nz
  have t := cells2 (heap_else (heap_else h.tb h1 x (i := 0)) h1 y (i := 1))
  have u := cells2 (heap_else (heap_else h.box h2 x (i := 0)) h2 y (i := 1))
  have hne := noteq h.src h.res (by decide)
  have v : ROwn ((wr.setCell ⟨Z, 0, none⟩ x).setCell ⟨Z, 1, none⟩ y) g n m := heap_else (heap_else h.src hne x (i := 0)) hne y (i := 1)
  exact ⟨t.1, t.2, u.2, v.cell hi⟩
theorem CSt.drew {w wr : World} {b Z g n T g2 : Nat} {m m2 : Nat → Bool} (h : CSt w b Z g n m T g2 m2 wr) : CSt w b Z g n m T g2 m2 wr.drew := ⟨h.src, h.box, h.res, h.tb, h.dst, h.new, h.ne, h.below.drew⟩
theorem cst_a {w w1 : World} {b Z g n : Nat} {m : Nat → Bool} (hs : ROwn w1 g n m) (hb : w1.heap[b]? = some (refBox g n)) (hr : w1.heap[Z]? = some noBox) (hbl : Below w.heap.size w w1) (hZ : w.heap.size ≤ Z) :
    CSt w b Z g n m (w1.heap.size + 1) w1.heap.size (fun _ => false) ((w1.alloc (.cells (madeCells #[.bool false] n) 4)).alloc (.cells #[.int .i64 (n : Nat), .slice (some ⟨w1.heap.size, 0, none⟩) n n] 54)) := by
  have hz := hbl.size
  have hk := ((Below.refl w1.heap.size w1).alloc (Nat.le_refl _) (.cells (madeCells #[.bool false] n) 4)).alloc (by rw [World.size_alloc]; omega) (.cells #[.int .i64 (n : Nat), .slice (some ⟨w1.heap.size, 0, none⟩) n n] 54)
  have hlt := heap_lt hs
  refine ⟨hs.keep hk, (hk.block _ (heap_lt hb)).trans hb, (hk.block _ (heap_lt hr)).trans hr, heap_new (World.size_alloc _ _).symm _, ?_, ⟨hz, hZ⟩, by omega, hbl.trans (hk.mono hz)⟩
  unfold ROwn
  rw [← made_bvs]
  exact heap_old (heap_new rfl _) _
theorem cst_b {w w1 : World} {b Z g n : Nat} {m : Nat → Bool} (hs : ROwn w1 g n m) (hb : w1.heap[b]? = some (refBox g n)) (hr : w1.heap[Z]? = some noBox) (hbl : Below w.heap.size w w1) (hZ : w.heap.size ≤ Z) :
    CSt w b Z g n m w1.heap.size (w1.heap.size + 1) (fun _ => false) ((w1.alloc (.cells #[.int .i64 (n : Nat), .slice (some ⟨w1.heap.size + 1, 0, none⟩) n n] 54)).alloc (.cells (madeCells #[.bool false] n) 4)) := by
  have hz := hbl.size
  have hk := ((Below.refl w1.heap.size w1).alloc (Nat.le_refl _) (.cells #[.int .i64 (n : Nat), .slice (some ⟨w1.heap.size + 1, 0, none⟩) n n] 54)).alloc (by rw [World.size_alloc]; omega) (.cells (madeCells #[.bool false] n) 4)
  have hlt := heap_lt hs
  refine ⟨hs.keep hk, (hk.block _ (heap_lt hb)).trans hb, (hk.block _ (heap_lt hr)).trans hr, heap_old (heap_new rfl _) _, ?_, ⟨by omega, hZ⟩, by omega, hbl.trans (hk.mono hz)⟩
  unfold ROwn
  rw [← made_bvs]
  exact heap_new (World.size_alloc _ _).symm _
set_option maxRecDepth 100000 in
set_option maxHeartbeats 4000000 in
theorem ref_clone (w : World) {g n : Nat} {m : Nat → Bool} (h : ROwn w g n m) (hn : n ≤ 1048576) :
    Calls Tryd.prog 90 #[RefV g n] w fun e w' => ∃ g2, e = .returned (RefV g2 n) ∧ w.heap.size ≤ g2 ∧ ROwn w' g2 n (m) ∧ Below w.heap.size w w' := by
  have hmk := make_bools n hn
  have HR := hide h
  clear h
  go_enter Tryd.func90, Tryd.ntmps90
  go_upto_region 1 with (fail)
  have hb := ((Below.refl w.heap.size w).alloc (Nat.le_refl _) (refBox g n)).alloc (by rw [World.size_alloc]; omega) noBox
  have hbox : ((w.alloc (refBox g n)).alloc noBox).heap[w.heap.size]? = some (refBox g n) := heap_old (heap_new rfl _) _
  have hres : ((w.alloc (refBox g n)).alloc noBox).heap[w.heap.size + 1]? = some noBox := heap_new (World.size_alloc _ _).symm _
  have HR1 := hide (HR.out.keep hb)
  have HB := hide hb
  have HBX := hide hbox
  have HRS := hide hres
  obtain ⟨c0, c1⟩ := cells2 hbox
  clear hb HR hbox hres
  generalize (w.alloc (refBox g n)).alloc noBox = w1 at *
  go_cut [3] (fun t wx => ∃ T g2, t = .pointer (some ⟨T, 0, none⟩) ∧ CSt w w.heap.size (w.heap.size + 1) g n m T g2 (fun _ => false) wx)
  case first =>
    have HA := hide (cst_a HR1.out HBX.out HRS.out HB.out (Nat.le_succ _))
    have HC := hide (cst_b HR1.out HBX.out HRS.out HB.out (Nat.le_succ _))
    go_region_held_law (fun w' => w'.cell? ⟨w.heap.size, 0, none⟩ = some (.int .i64 (n : Nat))) (first | exact c0 | (simp [World.cell?_alloc_some, c0])) (fail)
    · go_wp2_with fail
      go_meet
      exact ⟨_, _, rfl, HA.out.drew⟩
    · go_wp2_with fail
      go_meet
      exact ⟨_, _, rfl, HC.out.drew⟩
  case rest =>
    obtain ⟨T, g2, rfl, hst⟩ := hcut
    have HST := hide hst
    clear hst hmk c0 c1
    go_wp2_with fail
    go_loopw [4] (fun k wr => ∃ j : Nat, k = .int .i64 (j : Nat) ∧ j ≤ n ∧ CSt w w.heap.size (w.heap.size + 1) g n m T g2 (prt (m) j) wr) (fun k _ => n - (intOf k).toNat)
    case atStart => exact ⟨0, rfl, by omega, by rw [prt_zero]; exact HST.out⟩
    case round =>
      obtain ⟨j, rfl, hj, hst⟩ := hrel
      have HSj := hide hst
      obtain ⟨b0, b1⟩ := cells2 hst.box
      obtain ⟨t0, t1⟩ := cells2 hst.tb
      clear hst HST
      by_cases hjn : j < n
      · have hd1 : (j : Int) < (n : Int) := by omega
        have hcs := HSj.out.src.cell hjn
        have hcd := HSj.out.dst.cell hjn
        have hfd := HSj.out.dst.free j
        have hP := HSj.out.put j ((m) j)
        rw [prt_succ] at hP
        have HP := hide hP
        obtain ⟨p0, p1⟩ := cells2 hP.tb
        obtain ⟨q0, q1⟩ := cells2 hP.box
        have hps := hP.src.cell hjn
        clear hP
        go_upto_region 5 with (fail)
        go_region_held_law (fun w' => w'.cell? ⟨T, 1, none⟩ = some (.slice (some ⟨g2, 0, none⟩) n n) ∧ w'.cell? ⟨w.heap.size, 1, none⟩ = some (.slice (some ⟨g, 0, none⟩) n n) ∧ w'.cell? ⟨g, j, none⟩ = some (.bool (m j))) (first | exact ⟨t1, b1, hcs⟩ | exact ⟨p1, q1, hps⟩) (fail)
        go_wp2_with fail
        exact ⟨⟨j + 1, vi (by push_cast; omega), by omega, HP.out.drew⟩, by simp only [intOf]; omega⟩
      · have hd1 : ¬ (j : Int) < (n : Int) := by omega
        have hjj : j = n := by omega
        have HF := hide (HSj.out.dst.congr (k := m) (fun i hi => by rw [hjj]; exact prt_all _ n i hi))
        have hf0 := free_at HSj.out.res 0
        have hf1 := free_at HSj.out.res 1
        obtain ⟨z0, z1⟩ := cells2 HSj.out.res
        clear hjj
        go_wp2_with fail
        refine bodyPost_ret (results_cell_row rfl _ _ (w.heap.size + 1) 54 _ (0, 0) _ rfl (set2 HSj.out.res) Tryd.underlying54 rfl size54) rfl ⟨g2, rfl, HSj.out.new.1, ?_, below_set (below_set HSj.out.below HSj.out.new.2 _) HSj.out.new.2 _⟩
        have hne := noteq HF.out HSj.out.res (by decide)
        exact heap_else (heap_else HF.out hne _) hne _
set_option maxRecDepth 100000 in
set_option maxHeartbeats 4000000 in
theorem ref_not (w : World) {g n : Nat} {m : Nat → Bool} (h : ROwn w g n m) (hn : n ≤ 1048576) :
    Calls Tryd.prog 91 #[RefV g n] w fun e w' => ∃ g2, e = .returned (RefV g2 n) ∧ w.heap.size ≤ g2 ∧ ROwn w' g2 n (fun i => !m i) ∧ Below w.heap.size w w' := by
  have hmk := make_bools n hn
  have HR := hide h
  clear h
  go_enter Tryd.func91, Tryd.ntmps91
  go_upto_region 1 with (fail)
  have hb := ((Below.refl w.heap.size w).alloc (Nat.le_refl _) (refBox g n)).alloc (by rw [World.size_alloc]; omega) noBox
  have hbox : ((w.alloc (refBox g n)).alloc noBox).heap[w.heap.size]? = some (refBox g n) := heap_old (heap_new rfl _) _
  have hres : ((w.alloc (refBox g n)).alloc noBox).heap[w.heap.size + 1]? = some noBox := heap_new (World.size_alloc _ _).symm _
  have HR1 := hide (HR.out.keep hb)
  have HB := hide hb
  have HBX := hide hbox
  have HRS := hide hres
  obtain ⟨c0, c1⟩ := cells2 hbox
  clear hb HR hbox hres
  generalize (w.alloc (refBox g n)).alloc noBox = w1 at *
  go_cut [3] (fun t wx => ∃ T g2, t = .pointer (some ⟨T, 0, none⟩) ∧ CSt w w.heap.size (w.heap.size + 1) g n m T g2 (fun _ => false) wx)
  case first =>
    have HA := hide (cst_a HR1.out HBX.out HRS.out HB.out (Nat.le_succ _))
    have HC := hide (cst_b HR1.out HBX.out HRS.out HB.out (Nat.le_succ _))
    go_region_held_law (fun w' => w'.cell? ⟨w.heap.size, 0, none⟩ = some (.int .i64 (n : Nat))) (first | exact c0 | (simp [World.cell?_alloc_some, c0])) (fail)
    · go_wp2_with fail
      go_meet
      exact ⟨_, _, rfl, HA.out.drew⟩
    · go_wp2_with fail
      go_meet
      exact ⟨_, _, rfl, HC.out.drew⟩
  case rest =>
    obtain ⟨T, g2, rfl, hst⟩ := hcut
    have HST := hide hst
    clear hst hmk c0 c1
    go_wp2_with fail
    go_loopw [4] (fun k wr => ∃ j : Nat, k = .int .i64 (j : Nat) ∧ j ≤ n ∧ CSt w w.heap.size (w.heap.size + 1) g n m T g2 (prt (fun i => !m i) j) wr) (fun k _ => n - (intOf k).toNat)
    case atStart => exact ⟨0, rfl, by omega, by rw [prt_zero]; exact HST.out⟩
    case round =>
      obtain ⟨j, rfl, hj, hst⟩ := hrel
      have HSj := hide hst
      obtain ⟨b0, b1⟩ := cells2 hst.box
      obtain ⟨t0, t1⟩ := cells2 hst.tb
      clear hst HST
      by_cases hjn : j < n
      · have hd1 : (j : Int) < (n : Int) := by omega
        have hcs := HSj.out.src.cell hjn
        have hcd := HSj.out.dst.cell hjn
        have hfd := HSj.out.dst.free j
        have hP := HSj.out.put j ((fun i => !m i) j)
        rw [prt_succ] at hP
        have HP := hide hP
        obtain ⟨p0, p1⟩ := cells2 hP.tb
        obtain ⟨q0, q1⟩ := cells2 hP.box
        have hps := hP.src.cell hjn
        clear hP
        go_upto_region 5 with (fail)
        go_region_held_law (fun w' => w'.cell? ⟨T, 1, none⟩ = some (.slice (some ⟨g2, 0, none⟩) n n) ∧ w'.cell? ⟨w.heap.size, 1, none⟩ = some (.slice (some ⟨g, 0, none⟩) n n) ∧ w'.cell? ⟨g, j, none⟩ = some (.bool (m j))) (first | exact ⟨t1, b1, hcs⟩ | exact ⟨p1, q1, hps⟩) (fail)
        go_wp2_with fail
        exact ⟨⟨j + 1, vi (by push_cast; omega), by omega, HP.out.drew⟩, by simp only [intOf]; omega⟩
      · have hd1 : ¬ (j : Int) < (n : Int) := by omega
        have hjj : j = n := by omega
        have HF := hide (HSj.out.dst.congr (k := fun i => !m i) (fun i hi => by rw [hjj]; exact prt_all _ n i hi))
        have hf0 := free_at HSj.out.res 0
        have hf1 := free_at HSj.out.res 1
        obtain ⟨z0, z1⟩ := cells2 HSj.out.res
        clear hjj
        go_wp2_with fail
        refine bodyPost_ret (results_cell_row rfl _ _ (w.heap.size + 1) 54 _ (0, 0) _ rfl (set2 HSj.out.res) Tryd.underlying54 rfl size54) rfl ⟨g2, rfl, HSj.out.new.1, ?_, below_set (below_set HSj.out.below HSj.out.new.2 _) HSj.out.new.2 _⟩
        have hne := noteq HF.out HSj.out.res (by decide)
        exact heap_else (heap_else HF.out hne _) hne _
set_option maxRecDepth 100000 in
set_option maxHeartbeats 2000000 in
theorem ref_put_out (w : World) {g n : Nat} {m : Nat → Bool} (h : ROwn w g n m) (i : Int) (hi : i < 0 ∨ n ≤ i) (b : Bool) :
    Calls Tryd.prog 93 #[RefV g n, .int .i64 i, .bool b] w fun e w' => e = .returned (.tuple #[RefV g n, .bool false, .int .i64 8]) ∧ Below w.heap.size w w' := by
  have HI := hide hi
  clear hi
  have HR := hide h
  clear h
  go_enter Tryd.func93, Tryd.ntmps93
  go_upto_region 1 with (fail)
  have hb := ((Below.refl w.heap.size w).alloc (Nat.le_refl _) (refBox g n)).alloc (by rw [World.size_alloc]; omega) noBox
  have hbox : ((w.alloc (refBox g n)).alloc noBox).heap[w.heap.size]? = some (refBox g n) := heap_old (heap_new rfl _) _
  have hres : ((w.alloc (refBox g n)).alloc noBox).heap[w.heap.size + 1]? = some noBox := heap_new (World.size_alloc _ _).symm _
  have HR1 := hide (HR.out.keep hb)
  have HB := hide hb
  have HBX := hide hbox
  have HRS := hide hres
  obtain ⟨c0, c1⟩ := cells2 hbox
  clear hb HR hbox hres
  generalize (w.alloc (refBox g n)).alloc noBox = w1 at *
  obtain ⟨z0, z1⟩ := cells2 HRS.out
  have hf0 := free_at HRS.out 0
  have hf1 := free_at HRS.out 1
  by_cases h0 : i < 0
  · go_wp2_with fail
    refine bodyPost_ret (results_cell3 rfl _ _ (w.heap.size + 1) 54 _ (0, 0) _ rfl (set2 HRS.out) Tryd.underlying54 rfl size54) rfl ⟨rfl, below_set (below_set HB.out (Nat.le_succ _) _) (Nat.le_succ _) _⟩
  · have h1 : (n : Int) ≤ i := by have := HI.out; omega
    go_wp2_with fail
    refine bodyPost_ret (results_cell3 rfl _ _ (w.heap.size + 1) 54 _ (0, 0) _ rfl (set2 HRS.out) Tryd.underlying54 rfl size54) rfl ⟨rfl, below_set (below_set HB.out (Nat.le_succ _) _) (Nat.le_succ _) _⟩
set_option maxRecDepth 100000 in
set_option maxHeartbeats 4000000 in
theorem ref_put_in (w : World) {g n : Nat} {m : Nat → Bool} (h : ROwn w g n m) (i : Nat) (hi : i < n) (b : Bool) (hn : n ≤ 1048576) :
    Calls Tryd.prog 93 #[RefV g n, .int .i64 (i : Nat), .bool b] w fun e w' => ∃ g2, e = .returned (.tuple #[RefV g2 n, .bool (m i != b), .int .i64 0]) ∧ w.heap.size ≤ g2 ∧ ROwn w' g2 n (put m i b) ∧ Below w.heap.size w w' := by
  obtain ⟨x, hx⟩ : ∃ x, m i = x := ⟨_, rfl⟩
  rw [hx]
  have HX := hide hx
  clear hx
  have HR := hide h
  clear h
  go_enter Tryd.func93, Tryd.ntmps93
  go_upto_region 1 with (fail)
  have hb := ((Below.refl w.heap.size w).alloc (Nat.le_refl _) (refBox g n)).alloc (by rw [World.size_alloc]; omega) noBox
  have hbox : ((w.alloc (refBox g n)).alloc noBox).heap[w.heap.size]? = some (refBox g n) := heap_old (heap_new rfl _) _
  have hres : ((w.alloc (refBox g n)).alloc noBox).heap[w.heap.size + 1]? = some noBox := heap_new (World.size_alloc _ _).symm _
  have HR1 := hide (HR.out.keep hb)
  have HB := hide hb
  have HBX := hide hbox
  have HRS := hide hres
  obtain ⟨c0, c1⟩ := cells2 hbox
  clear hb HR hbox hres
  generalize (w.alloc (refBox g n)).alloc noBox = w1 at *
  have h1 : ¬ (i : Int) < 0 := by omega
  have h2 : ¬ (n : Int) ≤ (i : Int) := by omega
  have h2' : (i : Int) < (n : Int) := by omega
  have zB := HB.out.size
  go_wp2_with fail
  refine (ref_clone w1 HR1.out hn).mono ?_
  rintro e w2 ⟨g2, rfl, hg2, hown, hb2⟩
  have hbx := (Below.refl w2.heap.size w2).alloc (Nat.le_refl _) (refBox g2 n)
  have z2 := hb2.size
  have HST := hide (show CSt w w.heap.size (w.heap.size + 1) g n m w2.heap.size g2 m (w2.alloc (refBox g2 n)) from
    ⟨(HR1.out.keep hb2).keep hbx, (hbx.block _ (by have := heap_lt HBX.out; omega)).trans ((hb2.block _ (heap_lt HBX.out)).trans HBX.out), (hbx.block _ (by have := heap_lt HRS.out; omega)).trans ((hb2.block _ (heap_lt HRS.out)).trans HRS.out), heap_new rfl _, hown.keep hbx, ⟨by omega, Nat.le_succ _⟩, by have := heap_lt HR1.out; omega, HB.out.trans ((hb2.trans (hbx.mono hb2.size)).mono zB)⟩)
  obtain ⟨T, hT⟩ : ∃ T, w2.heap.size = T := ⟨_, rfl⟩
  clear hown hb2 hbx hg2 c0 c1 HR1 HB HBX HRS
  go_upto_region 4 with (fail)
  rw [hT] at HST
  clear hT z2
  generalize w2.alloc (.cells #[.int .i64 (n : Nat), .slice (some ⟨g2, 0, none⟩) n n] 54) = w3 at *
  obtain ⟨t0, t1⟩ := cells2 HST.out.tb
  have hcd := HST.out.dst.cell hi
  have hfd := HST.out.dst.free i
  have HP := hide (HST.out.put i b)
  go_upto_region 5 with (fail)
  generalize w3.setCell ⟨g2, i, none⟩ (.bool b) = w4 at *
  clear t0 t1 hcd hfd HST
  obtain ⟨t0, t1⟩ := cells2 HP.out.tb
  obtain ⟨b0, b1⟩ := cells2 HP.out.box
  obtain ⟨z0, z1⟩ := cells2 HP.out.res
  have hf0 := free_at HP.out.res 0
  have hf1 := free_at HP.out.res 1
  have hcs := HP.out.src.cell hi
  have HF := hide HP.out.dst
  have hafter := HP.out.res2 (.int .i64 (n : Nat)) (.slice (some ⟨g2, 0, none⟩) n n) hi
  rw [HX.out] at hcs hafter
  clear HX
  cases x with
  | true => 
    cases b with
    | true => 
      go_region_held_law (fun w' => w'.cell? ⟨T, 0, none⟩ = some (.int .i64 (n : Nat)) ∧ w'.cell? ⟨T, 1, none⟩ = some (.slice (some ⟨g2, 0, none⟩) n n) ∧ w'.cell? ⟨w.heap.size, 1, none⟩ = some (.slice (some ⟨g, 0, none⟩) n n) ∧ w'.cell? ⟨g, i, none⟩ = some (.bool true)) (first | exact ⟨t0, t1, b1, hcs⟩ | exact hafter) (fail)
      go_wp2_with fail
      have hne := noteq HF.out HP.out.res (by decide)
      refine bodyPost_ret (results_cell3 rfl _ _ (w.heap.size + 1) 54 _ (0, 0) _ rfl (set2 HP.out.res) Tryd.underlying54 rfl size54) rfl ⟨g2, rfl, HP.out.new.1, heap_else (heap_else HF.out hne _) hne _, (below_set (below_set HP.out.below HP.out.new.2 _) HP.out.new.2 _).drew⟩
    | false => 
      go_region_held_law (fun w' => w'.cell? ⟨T, 0, none⟩ = some (.int .i64 (n : Nat)) ∧ w'.cell? ⟨T, 1, none⟩ = some (.slice (some ⟨g2, 0, none⟩) n n) ∧ w'.cell? ⟨w.heap.size, 1, none⟩ = some (.slice (some ⟨g, 0, none⟩) n n) ∧ w'.cell? ⟨g, i, none⟩ = some (.bool true)) (first | exact ⟨t0, t1, b1, hcs⟩ | exact hafter) (fail)
      go_wp2_with fail
      have hne := noteq HF.out HP.out.res (by decide)
      refine bodyPost_ret (results_cell3 rfl _ _ (w.heap.size + 1) 54 _ (0, 0) _ rfl (set2 HP.out.res) Tryd.underlying54 rfl size54) rfl ⟨g2, rfl, HP.out.new.1, heap_else (heap_else HF.out hne _) hne _, (below_set (below_set HP.out.below HP.out.new.2 _) HP.out.new.2 _).drew⟩
  | false => 
    cases b with
    | true => 
      go_region_held_law (fun w' => w'.cell? ⟨T, 0, none⟩ = some (.int .i64 (n : Nat)) ∧ w'.cell? ⟨T, 1, none⟩ = some (.slice (some ⟨g2, 0, none⟩) n n) ∧ w'.cell? ⟨w.heap.size, 1, none⟩ = some (.slice (some ⟨g, 0, none⟩) n n) ∧ w'.cell? ⟨g, i, none⟩ = some (.bool false)) (first | exact ⟨t0, t1, b1, hcs⟩ | exact hafter) (fail)
      go_wp2_with fail
      have hne := noteq HF.out HP.out.res (by decide)
      refine bodyPost_ret (results_cell3 rfl _ _ (w.heap.size + 1) 54 _ (0, 0) _ rfl (set2 HP.out.res) Tryd.underlying54 rfl size54) rfl ⟨g2, rfl, HP.out.new.1, heap_else (heap_else HF.out hne _) hne _, (below_set (below_set HP.out.below HP.out.new.2 _) HP.out.new.2 _).drew⟩
    | false => 
      go_region_held_law (fun w' => w'.cell? ⟨T, 0, none⟩ = some (.int .i64 (n : Nat)) ∧ w'.cell? ⟨T, 1, none⟩ = some (.slice (some ⟨g2, 0, none⟩) n n) ∧ w'.cell? ⟨w.heap.size, 1, none⟩ = some (.slice (some ⟨g, 0, none⟩) n n) ∧ w'.cell? ⟨g, i, none⟩ = some (.bool false)) (first | exact ⟨t0, t1, b1, hcs⟩ | exact hafter) (fail)
      go_wp2_with fail
      have hne := noteq HF.out HP.out.res (by decide)
      refine bodyPost_ret (results_cell3 rfl _ _ (w.heap.size + 1) 54 _ (0, 0) _ rfl (set2 HP.out.res) Tryd.underlying54 rfl size54) rfl ⟨g2, rfl, HP.out.new.1, heap_else (heap_else HF.out hne _) hne _, (below_set (below_set HP.out.below HP.out.new.2 _) HP.out.new.2 _).drew⟩
end Go.Proofs.YtmkbbekeimnajaaDoor

/-! Rj: the document's Join -/
namespace Go.Proofs.YtmkbbekeimnajaaDoor
open Go.RowKit Ds
theorem still_skip {P : Program} {ops : Array Oper} {w : World} {Q : Act → Prop} {a : Act} {o : Oper} {rest : List Oper} (h : Region.wanted o (yielded ops a.tmps) = false) (k : wpStill P ops w Q rest (a.put o.dst undef)) : wpStill P ops w Q (o :: rest) a :=
  wpStill_step (fun K hK => by
    simp only [h, Bool.false_eq_true, if_false]
    exact hK _ k)
structure C2 (w : World) (b Z g n : Nat) (m : Nat → Bool) (T g2 : Nat) (m2 : Nat → Bool) (b3 g3 : Nat) (m3 : Nat → Bool) (wr : World) : Prop where
  c : CSt w b Z g n m T g2 m2 wr
  s3 : ROwn wr g3 n m3
  x3 : wr.heap[b3]? = some (refBox g3 n)
  n3 : g3 ≠ g2
theorem C2.put {w wr : World} {b Z g n T g2 b3 g3 : Nat} {m m2 m3 : Nat → Bool} (h : C2 w b Z g n m T g2 m2 b3 g3 m3 wr) (i : Nat) (x : Bool) : C2 w b Z g n m T g2 (put m2 i x) b3 g3 m3 (wr.setCell ⟨g2, i, none⟩ (.bool x)) :=
  ⟨h.c.put i x, heap_else h.s3 h.n3 _, heap_else h.x3 (noteq h.x3 h.c.dst (by decide)) _, h.n3⟩
theorem C2.drew {w wr : World} {b Z g n T g2 b3 g3 : Nat} {m m2 m3 : Nat → Bool} (h : C2 w b Z g n m T g2 m2 b3 g3 m3 wr) : C2 w b Z g n m T g2 m2 b3 g3 m3 wr.drew := ⟨h.c.drew, h.s3, h.x3, h.n3⟩
set_option maxRecDepth 100000 in
set_option maxHeartbeats 2000000 in
theorem ref_join_size (w : World) (op : Int) {g n g3 n3 : Nat} (hne : n ≠ n3) :
    Calls Tryd.prog 101 #[.int .i64 op, RefV g n, RefV g3 n3] w fun e w' => e = .returned (.tuple #[RefNo, .int .i64 9]) ∧ Below w.heap.size w w' := by
  have h1 : ¬ (n : Int) = (n3 : Int) := by omega
  clear hne
  go_enter Tryd.func101, Tryd.ntmps101
  go_upto_region 1 with (fail)
  have hb := (((Below.refl w.heap.size w).alloc (Nat.le_refl _) (refBox g n)).alloc (by rw [World.size_alloc]; omega) (refBox g3 n3)).alloc (by rw [World.size_alloc, World.size_alloc]; omega) noBox
  have hbox : (((w.alloc (refBox g n)).alloc (refBox g3 n3)).alloc noBox).heap[w.heap.size]? = some (refBox g n) := heap_old (heap_old (heap_new rfl _) _) _
  have hbox3 : (((w.alloc (refBox g n)).alloc (refBox g3 n3)).alloc noBox).heap[w.heap.size + 1]? = some (refBox g3 n3) := heap_old (heap_new (World.size_alloc _ _).symm _) _
  have hres : (((w.alloc (refBox g n)).alloc (refBox g3 n3)).alloc noBox).heap[w.heap.size + 1 + 1]? = some noBox := heap_new (by rw [World.size_alloc, World.size_alloc]) _
  have HB := hide hb
  have HRS := hide hres
  obtain ⟨c0, c1⟩ := cells2 hbox
  obtain ⟨d0, d1⟩ := cells2 hbox3
  obtain ⟨z0, z1⟩ := cells2 hres
  have hf0 := free_at hres 0
  have hf1 := free_at hres 1
  clear hb hres hbox hbox3
  generalize ((w.alloc (refBox g n)).alloc (refBox g3 n3)).alloc noBox = w1 at *
  go_wp2_with fail
  refine bodyPost_ret (results_cell2 rfl _ _ (w.heap.size + 1 + 1) 54 _ (0, 0) _ rfl (set2 HRS.out) Tryd.underlying54 rfl size54) rfl ⟨rfl, below_set (below_set HB.out (by omega) _) (by omega) _⟩
set_option maxRecDepth 100000 in
set_option maxHeartbeats 4000000 in
theorem ref_join_1 (w : World) {g n g3 : Nat} {m m3 : Nat → Bool} (h : ROwn w g n m) (h3 : ROwn w g3 n m3) (hn : n ≤ 1048576) :
    Calls Tryd.prog 101 #[.int .i64 1, RefV g n, RefV g3 n] w fun e w' => ∃ g2, e = .returned (.tuple #[RefV g2 n, .int .i64 0]) ∧ w.heap.size ≤ g2 ∧ ROwn w' g2 n (fun i => m i && m3 i) ∧ Below w.heap.size w w' := by
  have hmk := make_bools n hn
  have HR := hide h
  have HR3 := hide h3
  clear h h3
  go_enter Tryd.func101, Tryd.ntmps101
  go_upto_region 1 with (fail)
  have hb := (((Below.refl w.heap.size w).alloc (Nat.le_refl _) (refBox g n)).alloc (by rw [World.size_alloc]; omega) (refBox g3 n)).alloc (by rw [World.size_alloc, World.size_alloc]; omega) noBox
  have hbox : (((w.alloc (refBox g n)).alloc (refBox g3 n)).alloc noBox).heap[w.heap.size]? = some (refBox g n) := heap_old (heap_old (heap_new rfl _) _) _
  have hbox3 : (((w.alloc (refBox g n)).alloc (refBox g3 n)).alloc noBox).heap[w.heap.size + 1]? = some (refBox g3 n) := heap_old (heap_new (World.size_alloc _ _).symm _) _
  have hres : (((w.alloc (refBox g n)).alloc (refBox g3 n)).alloc noBox).heap[w.heap.size + 1 + 1]? = some noBox := heap_new (by rw [World.size_alloc, World.size_alloc]) _
  have HR1 := hide (HR.out.keep hb)
  have HR4 := hide (HR3.out.keep hb)
  have HB := hide hb
  have HBX := hide hbox
  have HBX3 := hide hbox3
  have HRS := hide hres
  obtain ⟨c0, c1⟩ := cells2 hbox
  obtain ⟨d0, d1⟩ := cells2 hbox3
  clear hb HR HR3 hres hbox hbox3
  generalize ((w.alloc (refBox g n)).alloc (refBox g3 n)).alloc noBox = w1 at *
  have zB := HB.out.size
  go_upto_region 3 with (fail)
  go_cut [8] (fun t wx => ∃ T g2, t = .pointer (some ⟨T, 0, none⟩) ∧ C2 w w.heap.size (w.heap.size + 1 + 1) g n m T g2 (fun _ => false) (w.heap.size + 1) g3 m3 wx)
  case first =>
    have hA := cst_a HR1.out HBX.out HRS.out HB.out (by omega)
    have hC := cst_b HR1.out HBX.out HRS.out HB.out (by omega)
    have ka := fun a b => ((Below.refl w1.heap.size w1).alloc (Nat.le_refl _) a).alloc (by rw [World.size_alloc]; omega) b
    have hl3 := heap_lt HR4.out
    have HA := hide (show C2 w w.heap.size (w.heap.size + 1 + 1) g n m _ _ (fun _ => false) (w.heap.size + 1) g3 m3 _ from ⟨hA, HR4.out.keep (ka _ _), ((ka _ _).block _ (heap_lt HBX3.out)).trans HBX3.out, by omega⟩)
    have HC := hide (show C2 w w.heap.size (w.heap.size + 1 + 1) g n m _ _ (fun _ => false) (w.heap.size + 1) g3 m3 _ from ⟨hC, HR4.out.keep (ka _ _), ((ka _ _).block _ (heap_lt HBX3.out)).trans HBX3.out, by omega⟩)
    clear hA hC ka hl3 c1 d0 d1
    go_region_held_law (fun w' => w'.cell? ⟨w.heap.size, 0, none⟩ = some (.int .i64 (n : Nat))) (first | exact c0 | (simp [World.cell?_alloc_some, c0])) (fail)
    · go_wp2_with fail
      go_meet
      exact ⟨_, _, rfl, HA.out.drew⟩
    · go_wp2_with fail
      go_meet
      exact ⟨_, _, rfl, HC.out.drew⟩
  case rest =>
    obtain ⟨T, g2, rfl, hst⟩ := hcut
    have HST := hide hst
    clear hst hmk c0 c1 d0 d1
    go_wp2_with fail
    go_loopw [9] (fun k wr => ∃ j : Nat, k = .int .i64 (j : Nat) ∧ j ≤ n ∧ C2 w w.heap.size (w.heap.size + 1 + 1) g n m T g2 (prt (fun i => m i && m3 i) j) (w.heap.size + 1) g3 m3 wr) (fun k _ => n - (intOf k).toNat)
    case atStart => exact ⟨0, rfl, by omega, by rw [prt_zero]; exact HST.out⟩
    case round =>
      obtain ⟨j, rfl, hj, hst⟩ := hrel
      have HSj := hide hst
      obtain ⟨b0, b1⟩ := cells2 hst.c.box
      obtain ⟨t0, t1⟩ := cells2 hst.c.tb
      obtain ⟨e0, e1⟩ := cells2 hst.x3
      clear hst HST
      by_cases hjn : j < n
      · have hd1 : (j : Int) < (n : Int) := by omega
        have hcs := HSj.out.c.src.cell hjn
        have hcd := HSj.out.c.dst.cell hjn
        have hfd := HSj.out.c.dst.free j
        have hc3 := HSj.out.s3.cell hjn
        have hP := HSj.out.put j ((fun i => m i && m3 i) j)
        rw [prt_succ] at hP
        have HP := hide hP
        clear hP
        obtain ⟨x, hx⟩ : ∃ x, m j = x := ⟨_, rfl⟩
        obtain ⟨y, hy⟩ : ∃ y, m3 j = y := ⟨_, rfl⟩
        rw [hx] at hcs
        rw [hy] at hc3
        simp only [hx, hy] at HP
        clear hx hy
        cases x with
        | true =>
          cases y with
          | true =>
            go_upto_region 9 with (fail)
            refine wp_region_still_tail 16 (by kernel_rfl) (by kernel_rfl) ?_
            simp only [List.take_succ_cons, List.take_zero, List.drop_succ_cons, List.drop_zero]
            iterate 16 still_step
            refine wpStill_nil ?_
            go_wp2_with fail
            exact ⟨⟨j + 1, vi (by push_cast; omega), by omega, HP.out.drew⟩, by simp only [intOf]; omega⟩
          | false =>
            go_upto_region 9 with (fail)
            refine wp_region_still_tail 16 (by kernel_rfl) (by kernel_rfl) ?_
            simp only [List.take_succ_cons, List.take_zero, List.drop_succ_cons, List.drop_zero]
            iterate 16 still_step
            refine wpStill_nil ?_
            go_wp2_with fail
            exact ⟨⟨j + 1, vi (by push_cast; omega), by omega, HP.out.drew⟩, by simp only [intOf]; omega⟩
        | false =>
          cases y with
          | true =>
            go_upto_region 9 with (fail)
            refine wp_region_still_tail 16 (by kernel_rfl) (by kernel_rfl) ?_
            simp only [List.take_succ_cons, List.take_zero, List.drop_succ_cons, List.drop_zero]
            iterate 9 still_step
            with_reducible refine still_skip (by kernel_rfl) ?_
            simp only [Act.put, List.setIfInBounds_toArray, List.set_cons_succ, List.set_cons_zero]
            with_reducible refine still_skip (by kernel_rfl) ?_
            simp only [Act.put, List.setIfInBounds_toArray, List.set_cons_succ, List.set_cons_zero]
            with_reducible refine still_skip (by kernel_rfl) ?_
            simp only [Act.put, List.setIfInBounds_toArray, List.set_cons_succ, List.set_cons_zero]
            with_reducible refine still_skip (by kernel_rfl) ?_
            simp only [Act.put, List.setIfInBounds_toArray, List.set_cons_succ, List.set_cons_zero]
            with_reducible refine still_skip (by kernel_rfl) ?_
            simp only [Act.put, List.setIfInBounds_toArray, List.set_cons_succ, List.set_cons_zero]
            iterate 2 still_step
            refine wpStill_nil ?_
            go_wp2_with fail
            exact ⟨⟨j + 1, vi (by push_cast; omega), by omega, HP.out.drew⟩, by simp only [intOf]; omega⟩
          | false =>
            go_upto_region 9 with (fail)
            refine wp_region_still_tail 16 (by kernel_rfl) (by kernel_rfl) ?_
            simp only [List.take_succ_cons, List.take_zero, List.drop_succ_cons, List.drop_zero]
            iterate 9 still_step
            with_reducible refine still_skip (by kernel_rfl) ?_
            simp only [Act.put, List.setIfInBounds_toArray, List.set_cons_succ, List.set_cons_zero]
            with_reducible refine still_skip (by kernel_rfl) ?_
            simp only [Act.put, List.setIfInBounds_toArray, List.set_cons_succ, List.set_cons_zero]
            with_reducible refine still_skip (by kernel_rfl) ?_
            simp only [Act.put, List.setIfInBounds_toArray, List.set_cons_succ, List.set_cons_zero]
            with_reducible refine still_skip (by kernel_rfl) ?_
            simp only [Act.put, List.setIfInBounds_toArray, List.set_cons_succ, List.set_cons_zero]
            with_reducible refine still_skip (by kernel_rfl) ?_
            simp only [Act.put, List.setIfInBounds_toArray, List.set_cons_succ, List.set_cons_zero]
            iterate 2 still_step
            refine wpStill_nil ?_
            go_wp2_with fail
            exact ⟨⟨j + 1, vi (by push_cast; omega), by omega, HP.out.drew⟩, by simp only [intOf]; omega⟩
      · have hd1 : ¬ (j : Int) < (n : Int) := by omega
        have hjj : j = n := by omega
        have HF := hide (HSj.out.c.dst.congr (k := fun i => m i && m3 i) (fun i hi => by rw [hjj]; exact prt_all _ n i hi))
        have hf0 := free_at HSj.out.c.res 0
        have hf1 := free_at HSj.out.c.res 1
        obtain ⟨z0, z1⟩ := cells2 HSj.out.c.res
        clear hjj
        go_wp2_with fail
        have hne := noteq HF.out HSj.out.c.res (by decide)
        refine bodyPost_ret (results_cell2 rfl _ _ (w.heap.size + 1 + 1) 54 _ (0, 0) _ rfl (set2 HSj.out.c.res) Tryd.underlying54 rfl size54) rfl ⟨g2, rfl, HSj.out.c.new.1, heap_else (heap_else HF.out hne _) hne _, below_set (below_set HSj.out.c.below HSj.out.c.new.2 _) HSj.out.c.new.2 _⟩
set_option maxRecDepth 100000 in
set_option maxHeartbeats 4000000 in
theorem ref_join_2 (w : World) {g n g3 : Nat} {m m3 : Nat → Bool} (h : ROwn w g n m) (h3 : ROwn w g3 n m3) (hn : n ≤ 1048576) :
    Calls Tryd.prog 101 #[.int .i64 2, RefV g n, RefV g3 n] w fun e w' => ∃ g2, e = .returned (.tuple #[RefV g2 n, .int .i64 0]) ∧ w.heap.size ≤ g2 ∧ ROwn w' g2 n (fun i => m i || m3 i) ∧ Below w.heap.size w w' := by
  have hmk := make_bools n hn
  have HR := hide h
  have HR3 := hide h3
  clear h h3
  go_enter Tryd.func101, Tryd.ntmps101
  go_upto_region 1 with (fail)
  have hb := (((Below.refl w.heap.size w).alloc (Nat.le_refl _) (refBox g n)).alloc (by rw [World.size_alloc]; omega) (refBox g3 n)).alloc (by rw [World.size_alloc, World.size_alloc]; omega) noBox
  have hbox : (((w.alloc (refBox g n)).alloc (refBox g3 n)).alloc noBox).heap[w.heap.size]? = some (refBox g n) := heap_old (heap_old (heap_new rfl _) _) _
  have hbox3 : (((w.alloc (refBox g n)).alloc (refBox g3 n)).alloc noBox).heap[w.heap.size + 1]? = some (refBox g3 n) := heap_old (heap_new (World.size_alloc _ _).symm _) _
  have hres : (((w.alloc (refBox g n)).alloc (refBox g3 n)).alloc noBox).heap[w.heap.size + 1 + 1]? = some noBox := heap_new (by rw [World.size_alloc, World.size_alloc]) _
  have HR1 := hide (HR.out.keep hb)
  have HR4 := hide (HR3.out.keep hb)
  have HB := hide hb
  have HBX := hide hbox
  have HBX3 := hide hbox3
  have HRS := hide hres
  obtain ⟨c0, c1⟩ := cells2 hbox
  obtain ⟨d0, d1⟩ := cells2 hbox3
  clear hb HR HR3 hres hbox hbox3
  generalize ((w.alloc (refBox g n)).alloc (refBox g3 n)).alloc noBox = w1 at *
  have zB := HB.out.size
  go_upto_region 3 with (fail)
  go_cut [8] (fun t wx => ∃ T g2, t = .pointer (some ⟨T, 0, none⟩) ∧ C2 w w.heap.size (w.heap.size + 1 + 1) g n m T g2 (fun _ => false) (w.heap.size + 1) g3 m3 wx)
  case first =>
    have hA := cst_a HR1.out HBX.out HRS.out HB.out (by omega)
    have hC := cst_b HR1.out HBX.out HRS.out HB.out (by omega)
    have ka := fun a b => ((Below.refl w1.heap.size w1).alloc (Nat.le_refl _) a).alloc (by rw [World.size_alloc]; omega) b
    have hl3 := heap_lt HR4.out
    have HA := hide (show C2 w w.heap.size (w.heap.size + 1 + 1) g n m _ _ (fun _ => false) (w.heap.size + 1) g3 m3 _ from ⟨hA, HR4.out.keep (ka _ _), ((ka _ _).block _ (heap_lt HBX3.out)).trans HBX3.out, by omega⟩)
    have HC := hide (show C2 w w.heap.size (w.heap.size + 1 + 1) g n m _ _ (fun _ => false) (w.heap.size + 1) g3 m3 _ from ⟨hC, HR4.out.keep (ka _ _), ((ka _ _).block _ (heap_lt HBX3.out)).trans HBX3.out, by omega⟩)
    clear hA hC ka hl3 c1 d0 d1
    go_region_held_law (fun w' => w'.cell? ⟨w.heap.size, 0, none⟩ = some (.int .i64 (n : Nat))) (first | exact c0 | (simp [World.cell?_alloc_some, c0])) (fail)
    · go_wp2_with fail
      go_meet
      exact ⟨_, _, rfl, HA.out.drew⟩
    · go_wp2_with fail
      go_meet
      exact ⟨_, _, rfl, HC.out.drew⟩
  case rest =>
    obtain ⟨T, g2, rfl, hst⟩ := hcut
    have HST := hide hst
    clear hst hmk c0 c1 d0 d1
    go_wp2_with fail
    go_loopw [9] (fun k wr => ∃ j : Nat, k = .int .i64 (j : Nat) ∧ j ≤ n ∧ C2 w w.heap.size (w.heap.size + 1 + 1) g n m T g2 (prt (fun i => m i || m3 i) j) (w.heap.size + 1) g3 m3 wr) (fun k _ => n - (intOf k).toNat)
    case atStart => exact ⟨0, rfl, by omega, by rw [prt_zero]; exact HST.out⟩
    case round =>
      obtain ⟨j, rfl, hj, hst⟩ := hrel
      have HSj := hide hst
      obtain ⟨b0, b1⟩ := cells2 hst.c.box
      obtain ⟨t0, t1⟩ := cells2 hst.c.tb
      obtain ⟨e0, e1⟩ := cells2 hst.x3
      clear hst HST
      by_cases hjn : j < n
      · have hd1 : (j : Int) < (n : Int) := by omega
        have hcs := HSj.out.c.src.cell hjn
        have hcd := HSj.out.c.dst.cell hjn
        have hfd := HSj.out.c.dst.free j
        have hc3 := HSj.out.s3.cell hjn
        have hP := HSj.out.put j ((fun i => m i || m3 i) j)
        rw [prt_succ] at hP
        have HP := hide hP
        clear hP
        obtain ⟨x, hx⟩ : ∃ x, m j = x := ⟨_, rfl⟩
        obtain ⟨y, hy⟩ : ∃ y, m3 j = y := ⟨_, rfl⟩
        rw [hx] at hcs
        rw [hy] at hc3
        simp only [hx, hy] at HP
        clear hx hy
        cases x with
        | true =>
          cases y with
          | true =>
            go_upto_region 11 with (fail)
            refine wp_region_still_tail 16 (by kernel_rfl) (by kernel_rfl) ?_
            simp only [List.take_succ_cons, List.take_zero, List.drop_succ_cons, List.drop_zero]
            iterate 9 still_step
            with_reducible refine still_skip (by kernel_rfl) ?_
            simp only [Act.put, List.setIfInBounds_toArray, List.set_cons_succ, List.set_cons_zero]
            with_reducible refine still_skip (by kernel_rfl) ?_
            simp only [Act.put, List.setIfInBounds_toArray, List.set_cons_succ, List.set_cons_zero]
            with_reducible refine still_skip (by kernel_rfl) ?_
            simp only [Act.put, List.setIfInBounds_toArray, List.set_cons_succ, List.set_cons_zero]
            with_reducible refine still_skip (by kernel_rfl) ?_
            simp only [Act.put, List.setIfInBounds_toArray, List.set_cons_succ, List.set_cons_zero]
            with_reducible refine still_skip (by kernel_rfl) ?_
            simp only [Act.put, List.setIfInBounds_toArray, List.set_cons_succ, List.set_cons_zero]
            iterate 2 still_step
            refine wpStill_nil ?_
            go_wp2_with fail
            exact ⟨⟨j + 1, vi (by push_cast; omega), by omega, HP.out.drew⟩, by simp only [intOf]; omega⟩
          | false =>
            go_upto_region 11 with (fail)
            refine wp_region_still_tail 16 (by kernel_rfl) (by kernel_rfl) ?_
            simp only [List.take_succ_cons, List.take_zero, List.drop_succ_cons, List.drop_zero]
            iterate 9 still_step
            with_reducible refine still_skip (by kernel_rfl) ?_
            simp only [Act.put, List.setIfInBounds_toArray, List.set_cons_succ, List.set_cons_zero]
            with_reducible refine still_skip (by kernel_rfl) ?_
            simp only [Act.put, List.setIfInBounds_toArray, List.set_cons_succ, List.set_cons_zero]
            with_reducible refine still_skip (by kernel_rfl) ?_
            simp only [Act.put, List.setIfInBounds_toArray, List.set_cons_succ, List.set_cons_zero]
            with_reducible refine still_skip (by kernel_rfl) ?_
            simp only [Act.put, List.setIfInBounds_toArray, List.set_cons_succ, List.set_cons_zero]
            with_reducible refine still_skip (by kernel_rfl) ?_
            simp only [Act.put, List.setIfInBounds_toArray, List.set_cons_succ, List.set_cons_zero]
            iterate 2 still_step
            refine wpStill_nil ?_
            go_wp2_with fail
            exact ⟨⟨j + 1, vi (by push_cast; omega), by omega, HP.out.drew⟩, by simp only [intOf]; omega⟩
        | false =>
          cases y with
          | true =>
            go_upto_region 11 with (fail)
            refine wp_region_still_tail 16 (by kernel_rfl) (by kernel_rfl) ?_
            simp only [List.take_succ_cons, List.take_zero, List.drop_succ_cons, List.drop_zero]
            iterate 16 still_step
            refine wpStill_nil ?_
            go_wp2_with fail
            exact ⟨⟨j + 1, vi (by push_cast; omega), by omega, HP.out.drew⟩, by simp only [intOf]; omega⟩
          | false =>
            go_upto_region 11 with (fail)
            refine wp_region_still_tail 16 (by kernel_rfl) (by kernel_rfl) ?_
            simp only [List.take_succ_cons, List.take_zero, List.drop_succ_cons, List.drop_zero]
            iterate 16 still_step
            refine wpStill_nil ?_
            go_wp2_with fail
            exact ⟨⟨j + 1, vi (by push_cast; omega), by omega, HP.out.drew⟩, by simp only [intOf]; omega⟩
      · have hd1 : ¬ (j : Int) < (n : Int) := by omega
        have hjj : j = n := by omega
        have HF := hide (HSj.out.c.dst.congr (k := fun i => m i || m3 i) (fun i hi => by rw [hjj]; exact prt_all _ n i hi))
        have hf0 := free_at HSj.out.c.res 0
        have hf1 := free_at HSj.out.c.res 1
        obtain ⟨z0, z1⟩ := cells2 HSj.out.c.res
        clear hjj
        go_wp2_with fail
        have hne := noteq HF.out HSj.out.c.res (by decide)
        refine bodyPost_ret (results_cell2 rfl _ _ (w.heap.size + 1 + 1) 54 _ (0, 0) _ rfl (set2 HSj.out.c.res) Tryd.underlying54 rfl size54) rfl ⟨g2, rfl, HSj.out.c.new.1, heap_else (heap_else HF.out hne _) hne _, below_set (below_set HSj.out.c.below HSj.out.c.new.2 _) HSj.out.c.new.2 _⟩
set_option maxRecDepth 100000 in
set_option maxHeartbeats 4000000 in
theorem ref_join_3 (w : World) {g n g3 : Nat} {m m3 : Nat → Bool} (h : ROwn w g n m) (h3 : ROwn w g3 n m3) (hn : n ≤ 1048576) :
    Calls Tryd.prog 101 #[.int .i64 3, RefV g n, RefV g3 n] w fun e w' => ∃ g2, e = .returned (.tuple #[RefV g2 n, .int .i64 0]) ∧ w.heap.size ≤ g2 ∧ ROwn w' g2 n (fun i => m i && !m3 i) ∧ Below w.heap.size w w' := by
  have hmk := make_bools n hn
  have HR := hide h
  have HR3 := hide h3
  clear h h3
  go_enter Tryd.func101, Tryd.ntmps101
  go_upto_region 1 with (fail)
  have hb := (((Below.refl w.heap.size w).alloc (Nat.le_refl _) (refBox g n)).alloc (by rw [World.size_alloc]; omega) (refBox g3 n)).alloc (by rw [World.size_alloc, World.size_alloc]; omega) noBox
  have hbox : (((w.alloc (refBox g n)).alloc (refBox g3 n)).alloc noBox).heap[w.heap.size]? = some (refBox g n) := heap_old (heap_old (heap_new rfl _) _) _
  have hbox3 : (((w.alloc (refBox g n)).alloc (refBox g3 n)).alloc noBox).heap[w.heap.size + 1]? = some (refBox g3 n) := heap_old (heap_new (World.size_alloc _ _).symm _) _
  have hres : (((w.alloc (refBox g n)).alloc (refBox g3 n)).alloc noBox).heap[w.heap.size + 1 + 1]? = some noBox := heap_new (by rw [World.size_alloc, World.size_alloc]) _
  have HR1 := hide (HR.out.keep hb)
  have HR4 := hide (HR3.out.keep hb)
  have HB := hide hb
  have HBX := hide hbox
  have HBX3 := hide hbox3
  have HRS := hide hres
  obtain ⟨c0, c1⟩ := cells2 hbox
  obtain ⟨d0, d1⟩ := cells2 hbox3
  clear hb HR HR3 hres hbox hbox3
  generalize ((w.alloc (refBox g n)).alloc (refBox g3 n)).alloc noBox = w1 at *
  have zB := HB.out.size
  go_upto_region 3 with (fail)
  go_cut [8] (fun t wx => ∃ T g2, t = .pointer (some ⟨T, 0, none⟩) ∧ C2 w w.heap.size (w.heap.size + 1 + 1) g n m T g2 (fun _ => false) (w.heap.size + 1) g3 m3 wx)
  case first =>
    have hA := cst_a HR1.out HBX.out HRS.out HB.out (by omega)
    have hC := cst_b HR1.out HBX.out HRS.out HB.out (by omega)
    have ka := fun a b => ((Below.refl w1.heap.size w1).alloc (Nat.le_refl _) a).alloc (by rw [World.size_alloc]; omega) b
    have hl3 := heap_lt HR4.out
    have HA := hide (show C2 w w.heap.size (w.heap.size + 1 + 1) g n m _ _ (fun _ => false) (w.heap.size + 1) g3 m3 _ from ⟨hA, HR4.out.keep (ka _ _), ((ka _ _).block _ (heap_lt HBX3.out)).trans HBX3.out, by omega⟩)
    have HC := hide (show C2 w w.heap.size (w.heap.size + 1 + 1) g n m _ _ (fun _ => false) (w.heap.size + 1) g3 m3 _ from ⟨hC, HR4.out.keep (ka _ _), ((ka _ _).block _ (heap_lt HBX3.out)).trans HBX3.out, by omega⟩)
    clear hA hC ka hl3 c1 d0 d1
    go_region_held_law (fun w' => w'.cell? ⟨w.heap.size, 0, none⟩ = some (.int .i64 (n : Nat))) (first | exact c0 | (simp [World.cell?_alloc_some, c0])) (fail)
    · go_wp2_with fail
      go_meet
      exact ⟨_, _, rfl, HA.out.drew⟩
    · go_wp2_with fail
      go_meet
      exact ⟨_, _, rfl, HC.out.drew⟩
  case rest =>
    obtain ⟨T, g2, rfl, hst⟩ := hcut
    have HST := hide hst
    clear hst hmk c0 c1 d0 d1
    go_wp2_with fail
    go_loopw [9] (fun k wr => ∃ j : Nat, k = .int .i64 (j : Nat) ∧ j ≤ n ∧ C2 w w.heap.size (w.heap.size + 1 + 1) g n m T g2 (prt (fun i => m i && !m3 i) j) (w.heap.size + 1) g3 m3 wr) (fun k _ => n - (intOf k).toNat)
    case atStart => exact ⟨0, rfl, by omega, by rw [prt_zero]; exact HST.out⟩
    case round =>
      obtain ⟨j, rfl, hj, hst⟩ := hrel
      have HSj := hide hst
      obtain ⟨b0, b1⟩ := cells2 hst.c.box
      obtain ⟨t0, t1⟩ := cells2 hst.c.tb
      obtain ⟨e0, e1⟩ := cells2 hst.x3
      clear hst HST
      by_cases hjn : j < n
      · have hd1 : (j : Int) < (n : Int) := by omega
        have hcs := HSj.out.c.src.cell hjn
        have hcd := HSj.out.c.dst.cell hjn
        have hfd := HSj.out.c.dst.free j
        have hc3 := HSj.out.s3.cell hjn
        have hP := HSj.out.put j ((fun i => m i && !m3 i) j)
        rw [prt_succ] at hP
        have HP := hide hP
        clear hP
        obtain ⟨x, hx⟩ : ∃ x, m j = x := ⟨_, rfl⟩
        obtain ⟨y, hy⟩ : ∃ y, m3 j = y := ⟨_, rfl⟩
        rw [hx] at hcs
        rw [hy] at hc3
        simp only [hx, hy] at HP
        clear hx hy
        cases x with
        | true =>
          cases y with
          | true =>
            go_upto_region 13 with (fail)
            refine wp_region_still_tail 17 (by kernel_rfl) (by kernel_rfl) ?_
            simp only [List.take_succ_cons, List.take_zero, List.drop_succ_cons, List.drop_zero]
            iterate 17 still_step
            refine wpStill_nil ?_
            go_wp2_with fail
            exact ⟨⟨j + 1, vi (by push_cast; omega), by omega, HP.out.drew⟩, by simp only [intOf]; omega⟩
          | false =>
            go_upto_region 13 with (fail)
            refine wp_region_still_tail 17 (by kernel_rfl) (by kernel_rfl) ?_
            simp only [List.take_succ_cons, List.take_zero, List.drop_succ_cons, List.drop_zero]
            iterate 17 still_step
            refine wpStill_nil ?_
            go_wp2_with fail
            exact ⟨⟨j + 1, vi (by push_cast; omega), by omega, HP.out.drew⟩, by simp only [intOf]; omega⟩
        | false =>
          cases y with
          | true =>
            go_upto_region 13 with (fail)
            refine wp_region_still_tail 17 (by kernel_rfl) (by kernel_rfl) ?_
            simp only [List.take_succ_cons, List.take_zero, List.drop_succ_cons, List.drop_zero]
            iterate 9 still_step
            with_reducible refine still_skip (by kernel_rfl) ?_
            simp only [Act.put, List.setIfInBounds_toArray, List.set_cons_succ, List.set_cons_zero]
            with_reducible refine still_skip (by kernel_rfl) ?_
            simp only [Act.put, List.setIfInBounds_toArray, List.set_cons_succ, List.set_cons_zero]
            with_reducible refine still_skip (by kernel_rfl) ?_
            simp only [Act.put, List.setIfInBounds_toArray, List.set_cons_succ, List.set_cons_zero]
            with_reducible refine still_skip (by kernel_rfl) ?_
            simp only [Act.put, List.setIfInBounds_toArray, List.set_cons_succ, List.set_cons_zero]
            with_reducible refine still_skip (by kernel_rfl) ?_
            simp only [Act.put, List.setIfInBounds_toArray, List.set_cons_succ, List.set_cons_zero]
            with_reducible refine still_skip (by kernel_rfl) ?_
            simp only [Act.put, List.setIfInBounds_toArray, List.set_cons_succ, List.set_cons_zero]
            iterate 2 still_step
            refine wpStill_nil ?_
            go_wp2_with fail
            exact ⟨⟨j + 1, vi (by push_cast; omega), by omega, HP.out.drew⟩, by simp only [intOf]; omega⟩
          | false =>
            go_upto_region 13 with (fail)
            refine wp_region_still_tail 17 (by kernel_rfl) (by kernel_rfl) ?_
            simp only [List.take_succ_cons, List.take_zero, List.drop_succ_cons, List.drop_zero]
            iterate 9 still_step
            with_reducible refine still_skip (by kernel_rfl) ?_
            simp only [Act.put, List.setIfInBounds_toArray, List.set_cons_succ, List.set_cons_zero]
            with_reducible refine still_skip (by kernel_rfl) ?_
            simp only [Act.put, List.setIfInBounds_toArray, List.set_cons_succ, List.set_cons_zero]
            with_reducible refine still_skip (by kernel_rfl) ?_
            simp only [Act.put, List.setIfInBounds_toArray, List.set_cons_succ, List.set_cons_zero]
            with_reducible refine still_skip (by kernel_rfl) ?_
            simp only [Act.put, List.setIfInBounds_toArray, List.set_cons_succ, List.set_cons_zero]
            with_reducible refine still_skip (by kernel_rfl) ?_
            simp only [Act.put, List.setIfInBounds_toArray, List.set_cons_succ, List.set_cons_zero]
            with_reducible refine still_skip (by kernel_rfl) ?_
            simp only [Act.put, List.setIfInBounds_toArray, List.set_cons_succ, List.set_cons_zero]
            iterate 2 still_step
            refine wpStill_nil ?_
            go_wp2_with fail
            exact ⟨⟨j + 1, vi (by push_cast; omega), by omega, HP.out.drew⟩, by simp only [intOf]; omega⟩
      · have hd1 : ¬ (j : Int) < (n : Int) := by omega
        have hjj : j = n := by omega
        have HF := hide (HSj.out.c.dst.congr (k := fun i => m i && !m3 i) (fun i hi => by rw [hjj]; exact prt_all _ n i hi))
        have hf0 := free_at HSj.out.c.res 0
        have hf1 := free_at HSj.out.c.res 1
        obtain ⟨z0, z1⟩ := cells2 HSj.out.c.res
        clear hjj
        go_wp2_with fail
        have hne := noteq HF.out HSj.out.c.res (by decide)
        refine bodyPost_ret (results_cell2 rfl _ _ (w.heap.size + 1 + 1) 54 _ (0, 0) _ rfl (set2 HSj.out.c.res) Tryd.underlying54 rfl size54) rfl ⟨g2, rfl, HSj.out.c.new.1, heap_else (heap_else HF.out hne _) hne _, below_set (below_set HSj.out.c.below HSj.out.c.new.2 _) HSj.out.c.new.2 _⟩
end Go.Proofs.YtmkbbekeimnajaaDoor
