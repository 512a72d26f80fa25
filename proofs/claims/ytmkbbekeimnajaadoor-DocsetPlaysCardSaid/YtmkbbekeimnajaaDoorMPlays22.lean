/- texts of this proof, one behind the other: Pc Py WPlays -/
import Derived.Test.YtmkbbekeimnajaaDoorMPlays0
import Derived.Test.YtmkbbekeimnajaaDoorMPlays1
import Derived.Test.YtmkbbekeimnajaaDoorMPlays2
import Derived.Test.YtmkbbekeimnajaaDoorMPlays3
import Derived.Test.YtmkbbekeimnajaaDoorMPlays4
import Derived.Test.YtmkbbekeimnajaaDoorMPlays5
import Derived.Test.YtmkbbekeimnajaaDoorMPlays6
import Derived.Test.YtmkbbekeimnajaaDoorMPlays7
import Derived.Test.YtmkbbekeimnajaaDoorMPlays8
import Derived.Test.YtmkbbekeimnajaaDoorMPlays9
import Derived.Test.YtmkbbekeimnajaaDoorMPlays10
import Derived.Test.YtmkbbekeimnajaaDoorMPlays11
import Derived.Test.YtmkbbekeimnajaaDoorMPlays12
import Derived.Test.YtmkbbekeimnajaaDoorMPlays13
import Derived.Test.YtmkbbekeimnajaaDoorMPlays14
import Derived.Test.YtmkbbekeimnajaaDoorMPlays15
import Derived.Test.YtmkbbekeimnajaaDoorMPlays16
import Derived.Test.YtmkbbekeimnajaaDoorMPlays17
import Derived.Test.YtmkbbekeimnajaaDoorMPlays18
import Derived.Test.YtmkbbekeimnajaaDoorMPlays19
import Derived.Test.YtmkbbekeimnajaaDoorMPlays20
import Derived.Test.YtmkbbekeimnajaaDoorMPlays21
/-! Pc: asks (74): All -/
namespace Go.Proofs.YtmkbbekeimnajaaDoor
open Go.RowKit Ds
set_option maxRecDepth 100000 in
set_option maxHeartbeats 1000000 in
theorem asks_all (w0 w : World) (E : Nat → Addr) (hE : Errs w0 E allErrs) (hT : DeBr w0) (hg : 25 ≤ w0.heap.size) (hb : Below w0.heap.size w0 w) {W : Nat} {st : Nat → Option SlotR} (hW : Wd w w0.heap.size W st) (s t dst n : Int) (lst bv : Value) :
    Calls Tryd.prog 74 #[.pointer (some ⟨W, 0, none⟩), OpV 13 s t dst n lst bv] w fun e w' => Done w0 W e w' := by
  have HEW := hide hE
  have HTW := hide hT
  have HB0 := hide hb
  have HW := hide hW
  have hz := hW.size
  clear hE hT hb hW
  go_enter Tryd.func74, Tryd.ntmps74
  go_upto_region 1 with (fail)
  have hbx := (Below.refl w.heap.size w).alloc (Nat.le_refl _) (opBox 13 s t dst n lst bv)
  have hbox : (w.alloc (opBox 13 s t dst n lst bv)).heap[w.heap.size]? = some (opBox 13 s t dst n lst bv) := heap_new rfl _
  have HW1 := hide (HW.out.keep hbx)
  have HB1 := hide (HB0.out.trans (hbx.mono hz))
  obtain ⟨c0, c1, c2, c3, c4, c5, c6⟩ := cells7 hbox
  have HBOX := hide hbox
  clear hbx hbox HW HB0
  generalize w.alloc (opBox 13 s t dst n lst bv) = w1 at *
  obtain ⟨a, ha⟩ : ∃ a, (s % 4).toNat = a := ⟨_, rfl⟩
  obtain ⟨b, hb'⟩ : ∃ b, (t % 4).toNat = b := ⟨_, rfl⟩
  have HSA := hide (fun q => slot_any (w1.drewN q) s)
  have HSB := hide (fun q => slot_any (w1.drewN q) t)
  rw [ha] at HSA
  rw [hb'] at HSB
  have hal : a < 4 := by omega
  have hbl : b < 4 := by omega
  have hai : (a : Int) < 4 := by omega
  have hbi : (b : Int) < 4 := by omega
  clear ha hb'
  go_quiet (first | (go_at_call 88; with_reducible exact Calls.quiet_of_same ((HSA.out _).mono (fun _ _ h => ⟨h.1, h.2.symm⟩))) | (go_at_call 88; with_reducible exact Calls.quiet_of_same ((HSB.out _).mono (fun _ _ h => ⟨h.1, h.2.symm⟩))))
  have HW2 := hide (HW1.out.keep (below_drewN (Below.refl _ _) nq))
  have HB2 := hide (below_drewN HB1.out nq)
  have HBX2 := hide (show (w1.drewN nq).heap[w.heap.size]? = some (opBox 13 s t dst n lst bv) from HBOX.out)
  clear HW1 HB1 HBOX HSA HSB c0 c1 c2 c3 c4 c5 c6
  generalize w1.drewN nq = w2 at *
  obtain ⟨c0, c1, c2, c3, c4, c5, c6⟩ := cells7 HBX2.out
  cases hst : st a with
  | none =>
    obtain ⟨k1, k4⟩ := Rm.void ⟨HW2.out, HB2.out⟩ hal hst
    have HD := hide (show Done w0 W (.returned (.bool true)) w2 from ⟨rfl, st, HW2.out, HB2.out⟩)
    clear hst
    go_wp2_with fail
    go_ret
    exact HD.out
  | some r =>
    have HST := hide hst
    have HSET := hide (HW2.out.sets a r hal hst)
    have hsm := HSET.out.1.small
    clear hst
    have hSz := HW2.out.size
    obtain ⟨k1, k2, k3, k4⟩ := Rm.full ⟨HW2.out, HB2.out⟩ hal HST.out
    have hbx8 := (Below.refl w2.heap.size w2).alloc (Nat.le_refl _) (refBox r.gr r.n)
    have HRA := hide (show Ra2 w0 W st a r w.heap.size w2.heap.size (opBox 13 s t dst n lst bv) (w2.alloc (refBox r.gr r.n)).drew from
      ⟨(Rm.keep ⟨HW2.out, HB2.out⟩ hbx8).keep ((Below.refl _ _).drew), HST.out, hal, (hbx8.block _ (heap_lt HBX2.out)).trans HBX2.out, heap_new rfl _, debr_below HTW.out ((HB2.out.trans (hbx8.mono hSz)).drew) (by omega), by show 15 < (w2.alloc _).heap.size; rw [World.size_alloc]; omega⟩)
    go_upto_region 4 with (fail)
    have n2 := World.new_ne w2 _ k1
    dsimp only at n2
    go_region_held_law (fun w' => w'.cell? ⟨W, a, none⟩ = some (.pointer (some ⟨r.S, 0, none⟩)) ∧ w'.cell? ⟨W, 4 + a * 2, none⟩ = some (.int .i64 (r.n : Nat)) ∧ w'.cell? ⟨W, 4 + a * 2 + 1, none⟩ = some (.slice (some ⟨r.gr, 0, none⟩) r.n r.n)) (first | exact ⟨k1, k2, k3⟩ | (refine ⟨?_, ?_, ?_⟩ <;> simp [World.cell?_alloc_some, World.cell?_setCell_far, k1, k2, k3, n2])) (fail)
    clear hbx8 k1 k2 k3 k4 HSET c0 c1 c2 c3 c4 c5 c6 n2
    clear HW2 HB2 HBX2
    obtain ⟨T8, hT8⟩ : ∃ T, w2.heap.size = T := ⟨_, rfl⟩
    rw [hT8] at HRA
    rw [show (⟨w2.heap.size, 0, none⟩ : Addr) = ⟨T8, 0, none⟩ from by rw [hT8]]
    clear hT8
    generalize (w2.alloc (.cells #[.int .i64 (r.n : Nat), .slice (some ⟨r.gr, 0, none⟩) r.n r.n] 54)).drew = w3 at *
    obtain ⟨S1, g1, cap1, N, gr1, m1⟩ := r
    obtain ⟨b0, b1⟩ := cells2 HRA.out.bx
    obtain ⟨c0, c1, c2, c3, c4, c5, c6⟩ := cells7 HRA.out.ob
    have hsm : N ≤ 1048576 := hsm
    go_upto_region 35 with (fail)
    have hst := HRA.out.keep (w' := w3.drew) ((Below.refl _ _).drew)
    have HALL := hide (fun q => HRA.out.keep (below_drewN (Below.refl w3.heap.size w3) q))
    clear HRA
    go_region_held_law (fun w' => w'.cell? ⟨T8, 0, none⟩ = some (.int .i64 (N : Nat)) ∧ w'.cell? ⟨T8, 1, none⟩ = some (.slice (some ⟨gr1, 0, none⟩) N N) ∧ w'.cell? ⟨w.heap.size, 4, none⟩ = some (.int .i64 n)) (exact ⟨(cells2 (by assumption : Ra2 w0 W st a ⟨S1, g1, cap1, N, gr1, m1⟩ w.heap.size T8 (opBox 13 s t dst n lst bv) _).bx).1, (cells2 (by assumption : Ra2 w0 W st a ⟨S1, g1, cap1, N, gr1, m1⟩ w.heap.size T8 (opBox 13 s t dst n lst bv) _).bx).2, (cells7 (by assumption : Ra2 w0 W st a ⟨S1, g1, cap1, N, gr1, m1⟩ w.heap.size T8 (opBox 13 s t dst n lst bv) _).ob).2.2.2.2.1⟩) (first
      | (go_at_call 33; with_reducible refine (ref_members _ (by assumption : Ra2 w0 W st a ⟨S1, g1, cap1, N, gr1, m1⟩ w.heap.size T8 (opBox 13 s t dst n lst bv) _).own hsm).mono ?_; rintro e w7 ⟨v7, rfl, ho7, hb7⟩; have hi7 := ints_own (zs := mI m1 N) (by rw [mI_len]; exact ho7); obtain ⟨a7, k7, rfl⟩ := ints_form hi7; have hst7 := Ra2.keep (by assumption : Ra2 w0 W st a ⟨S1, g1, cap1, N, gr1, m1⟩ w.heap.size T8 (opBox 13 s t dst n lst bv) _) hb7; clear ho7 hb7)
      | (go_at_call 99; with_reducible refine (goes_any _ (by assumption : Ra2 w0 W st a ⟨S1, g1, cap1, N, gr1, m1⟩ w.heap.size T8 (opBox 13 s t dst n lst bv) _).deb (by assumption : Ra2 w0 W st a ⟨S1, g1, cap1, N, gr1, m1⟩ w.heap.size T8 (opBox 13 s t dst n lst bv) _).sz (by assumption : Ra2 w0 W st a ⟨S1, g1, cap1, N, gr1, m1⟩ w.heap.size T8 (opBox 13 s t dst n lst bv) _).set _ _ _ (mI_len _ _).symm hi7 n).mono ?_; rintro e w8 ⟨rfl, hb8⟩; have hst8 := Ra2.keep hst7 hb8; clear hb8))
    all_goals
      have HD := hide (Ra2.done hst8)
      go_wp2_with fail
      go_ret
      exact HD.out
end Go.Proofs.YtmkbbekeimnajaaDoor

/-! Py: play (42): one call -/
namespace Go.Proofs.YtmkbbekeimnajaaDoor
open Go.RowKit Ds
set_option maxRecDepth 100000 in
set_option maxHeartbeats 1000000 in
theorem play_makes (w0 w : World) (hb : Below w0.heap.size w0 w) {W : Nat} {st : Nat → Option SlotR} (hW : Wd w w0.heap.size W st) (k s t dst n : Int) (lst bv : Value)
    (hk : k = 1 ∨ k = 2 ∨ k = 3 ∨ k = 14 ∨ k = 18 ∨ k = 21 ∨ k = 15 ∨ k = 16 ∨ k = 17)
    (H : ∀ w1, Below w0.heap.size w0 w1 → Wd w1 w0.heap.size W st → Calls Tryd.prog 73 #[.pointer (some ⟨W, 0, none⟩), OpV k s t dst n lst bv] w1 fun e w' => Done w0 W e w') :
    Calls Tryd.prog 42 #[.pointer (some ⟨W, 0, none⟩), OpV k s t dst n lst bv] w fun e w' => Done w0 W e w' := by
  have HH := hide H
  have HB0 := hide hb
  have HW := hide hW
  have hz := hW.size
  clear H hb hW
  go_enter Tryd.func42, Tryd.ntmps42
  go_upto_region 1 with (fail)
  have hbx := (Below.refl w.heap.size w).alloc (Nat.le_refl _) (opBox k s t dst n lst bv)
  have hbox : (w.alloc (opBox k s t dst n lst bv)).heap[w.heap.size]? = some (opBox k s t dst n lst bv) := heap_new rfl _
  have HW1 := hide (HW.out.keep hbx)
  have HB1 := hide (HB0.out.trans (hbx.mono hz))
  obtain ⟨c0, c1, c2, c3, c4, c5, c6⟩ := cells7 hbox
  clear hbx hbox HW HB0
  generalize w.alloc (opBox k s t dst n lst bv) = w1 at *
  have HC := hide (HH.out w1 HB1.out HW1.out)
  clear HH
  rcases hk with rfl | rfl | rfl | rfl | rfl | rfl | rfl | rfl | rfl
  all_goals
    go_wp2_with fail
    refine HC.out.mono ?_
    rintro e w2 ⟨rfl, HD⟩
    have HD := hide HD
    go_wp2_with fail
    go_ret
    exact ⟨rfl, HD.out⟩
set_option maxRecDepth 100000 in
set_option maxHeartbeats 1000000 in
theorem play_asks (w0 w : World) (hb : Below w0.heap.size w0 w) {W : Nat} {st : Nat → Option SlotR} (hW : Wd w w0.heap.size W st) (k s t dst n : Int) (lst bv : Value)
    (hk : ¬ (k = 1 ∨ k = 2 ∨ k = 3 ∨ k = 14 ∨ k = 18 ∨ k = 21 ∨ k = 15 ∨ k = 16 ∨ k = 17))
    (H : ∀ w1, Below w0.heap.size w0 w1 → Wd w1 w0.heap.size W st → Calls Tryd.prog 74 #[.pointer (some ⟨W, 0, none⟩), OpV k s t dst n lst bv] w1 fun e w' => Done w0 W e w') :
    Calls Tryd.prog 42 #[.pointer (some ⟨W, 0, none⟩), OpV k s t dst n lst bv] w fun e w' => Done w0 W e w' := by
  have HH := hide H
  have HB0 := hide hb
  have HW := hide hW
  have hz := hW.size
  clear H hb hW
  have q1 : ¬ k = 1 := by omega
  have q2 : ¬ k = 2 := by omega
  have q3 : ¬ k = 3 := by omega
  have q14 : ¬ k = 14 := by omega
  have q18 : ¬ k = 18 := by omega
  have q21 : ¬ k = 21 := by omega
  have q15 : ¬ k = 15 := by omega
  have q16 : ¬ k = 16 := by omega
  have q17 : ¬ k = 17 := by omega
  clear hk
  go_enter Tryd.func42, Tryd.ntmps42
  go_upto_region 1 with (fail)
  have hbx := (Below.refl w.heap.size w).alloc (Nat.le_refl _) (opBox k s t dst n lst bv)
  have hbox : (w.alloc (opBox k s t dst n lst bv)).heap[w.heap.size]? = some (opBox k s t dst n lst bv) := heap_new rfl _
  have HW1 := hide (HW.out.keep hbx)
  have HB1 := hide (HB0.out.trans (hbx.mono hz))
  obtain ⟨c0, c1, c2, c3, c4, c5, c6⟩ := cells7 hbox
  clear hbx hbox HW HB0
  generalize w.alloc (opBox k s t dst n lst bv) = w1 at *
  have HC := hide (HH.out w1 HB1.out HW1.out)
  clear HH
  go_wp2_with fail
  refine HC.out.mono ?_
  rintro e w2 ⟨rfl, HD⟩
  have HD := hide HD
  go_wp2_with fail
  go_ret
  exact ⟨rfl, HD.out⟩
theorem play_any (w0 w : World) (E : Nat → Addr) (hE : Errs w0 E allErrs) (hT : DeBr w0) (hg : 25 ≤ w0.heap.size) (hb : Below w0.heap.size w0 w) {W : Nat} {st : Nat → Option SlotR} (hW : Wd w w0.heap.size W st) (x : OpR) (hz : Ints w0 x.lst x.zs) (hs : Src w0 x.bv x.bs)
    (lz : x.zs.length ≤ 140737488351232) (lb : x.bs.length ≤ 140737488351232) :
    Calls Tryd.prog 42 #[.pointer (some ⟨W, 0, none⟩), OpV x.k x.s x.t x.dst x.n x.lst x.bv] w fun e w' => Done w0 W e w' := by
  obtain ⟨k, s, t, dst, n, lst, bv, zs, bs⟩ := x
  dsimp only at *
  by_cases hk : k = 1 ∨ k = 2 ∨ k = 3 ∨ k = 14 ∨ k = 18 ∨ k = 21 ∨ k = 15 ∨ k = 16 ∨ k = 17
  · refine play_makes w0 w hb hW k s t dst n lst bv hk (fun w1 hb1 hW1 => ?_)
    obtain ⟨a1, k1, rfl⟩ := ints_form hz
    obtain ⟨a2, k2, rfl⟩ := src_form hs
    rcases hk with rfl | rfl | rfl | rfl | rfl | rfl | rfl | rfl | rfl
    · exact makes_new w0 w1 E hE hT hg hb1 hW1 s t dst n _ _
    · exact makes_of w0 w1 E hE hT hg hb1 hW1 s t dst n hz rfl (by omega) _
    · exact makes_decode w0 w1 E hE hT hg hb1 hW1 s t dst n _ hs rfl lb
    · exact makes_clone w0 w1 E hE hT hg hb1 hW1 s t dst n _ _
    · exact makes_not w0 w1 E hE hT hg hb1 hW1 s t dst n _ _
    · exact makes_back w0 w1 E hE hT hg hb1 hW1 s t dst n _ _
    · exact makes_join_15 w0 w1 E hE hT hg hb1 hW1 s t dst n _ _
    · exact makes_join_16 w0 w1 E hE hT hg hb1 hW1 s t dst n _ _
    · exact makes_join_17 w0 w1 E hE hT hg hb1 hW1 s t dst n _ _
  · refine play_asks w0 w hb hW k s t dst n lst bv hk (fun w1 hb1 hW1 => ?_)
    by_cases ho : (k < 4 ∨ 13 < k) ∧ k ≠ 19 ∧ k ≠ 20
    · exact asks_other w0 w1 E hE hT hg hb1 hW1 s t dst n _ _ k ho
    · have h2 : k = 4 ∨ k = 5 ∨ k = 6 ∨ k = 7 ∨ k = 8 ∨ k = 9 ∨ k = 10 ∨ k = 11 ∨ k = 12 ∨ k = 13 ∨ k = 19 ∨ k = 20 := by omega
      rcases h2 with rfl | rfl | rfl | rfl | rfl | rfl | rfl | rfl | rfl | rfl | rfl | rfl
      · exact asks_add w0 w1 E hE hT hg hb1 hW1 s t dst n _ _
      · exact asks_remove w0 w1 E hE hT hg hb1 hW1 s t dst n _ _
      · exact asks_has w0 w1 E hE hT hg hb1 hW1 s t dst n _ _
      · exact asks_rank w0 w1 E hE hT hg hb1 hW1 s t dst n _ _
      · exact asks_select w0 w1 E hE hT hg hb1 hW1 s t dst n _ _
      · exact asks_next w0 w1 E hE hT hg hb1 hW1 s t dst n _ _
      · exact asks_size w0 w1 E hE hT hg hb1 hW1 s t dst n _ _
      · exact asks_members w0 w1 E hE hT hg hb1 hW1 s t dst n _ _
      · exact asks_runs w0 w1 E hE hT hg hb1 hW1 s t dst n _ _
      · exact asks_all w0 w1 E hE hT hg hb1 hW1 s t dst n _ _
      · exact asks_equal w0 w1 E hE hT hg hb1 hW1 s t dst n _ _
      · exact asks_encode w0 w1 E hE hT hg hb1 hW1 s t dst n _ _
end Go.Proofs.YtmkbbekeimnajaaDoor

/-! WPlays: the walk of DocsetPlays -/
namespace Go.Proofs.YtmkbbekeimnajaaDoor
open Go.RowKit Ds
theorem wd_none {w : World} {B W : Nat} (hW : w.heap[W]? = some (.cells #[.pointer none, .pointer none, .pointer none, .pointer none, .int .i64 0, .slice none 0 0, .int .i64 0, .slice none 0 0, .int .i64 0, .slice none 0 0, .int .i64 0, .slice none 0 0, .bool false, .bool false, .bool false, .bool false] 75 (0, 0))) (hB : B ≤ W) (hz : B ≤ w.heap.size) :
    Wd w B W (fun _ => none) := by
  refine ⟨⟨_, hW, fun i hi => ?_⟩, fun i s hi hs => (by cases hs), fun i j s t _ _ _ hs => (by cases hs), hB, hz⟩
  match i, hi with
  | 0, _ | 1, _ | 2, _ | 3, _ => exact ⟨rfl, rfl, rfl, rfl⟩
set_option maxRecDepth 100000 in
set_option maxHeartbeats 4000000 in
theorem plays_walk (w : World) (T : DeBr w) (E : Nat → Addr) (hE : Errs w E allErrs) (hg : 25 ≤ w.heap.size) (ao : Option Addr) (k : Nat) (ops : List OpR) (h : OpsAt w (.slice ao ops.length k) ops) (hl : ops.length ≤ 140737488351232) :
    Calls Tryd.prog 10 #[.slice ao ops.length k] w fun e w' => e = .returned (.bool true) ∧ Below w.heap.size w w' := by
  have HT := hide T
  have HE := hide hE
  have HO := hide h
  clear T hE h
  go_enter Tryd.func10, Tryd.ntmps10
  go_wp2_with fail
  refine (fixed_any w E HE.out HT.out hg).mono ?_
  rintro e w1 ⟨rfl, hb1⟩
  have HB1 := hide hb1
  have z1 := hb1.size
  clear hb1
  go_upto_region 4 with (fail)
  have hbox := heap_new (w := w1) rfl (.cells #[.pointer none, .pointer none, .pointer none, .pointer none, .int .i64 0, .slice none 0 0, .int .i64 0, .slice none 0 0, .int .i64 0, .slice none 0 0, .int .i64 0, .slice none 0 0, .bool false, .bool false, .bool false, .bool false] 75)
  have HB2 := hide (HB1.out.alloc z1 (.cells #[.pointer none, .pointer none, .pointer none, .pointer none, .int .i64 0, .slice none 0 0, .int .i64 0, .slice none 0 0, .int .i64 0, .slice none 0 0, .int .i64 0, .slice none 0 0, .bool false, .bool false, .bool false, .bool false] 75))
  generalize w1.alloc (.cells #[.pointer none, .pointer none, .pointer none, .pointer none, .int .i64 0, .slice none 0 0, .int .i64 0, .slice none 0 0, .int .i64 0, .slice none 0 0, .int .i64 0, .slice none 0 0, .bool false, .bool false, .bool false, .bool false] 75) = w2 at *
  obtain ⟨W, hW⟩ : ∃ W, w1.heap.size = W := ⟨_, rfl⟩
  rw [hW] at hbox z1 ⊢
  have HW2 := hide (wd_none hbox z1 HB2.out.size)
  clear hbox hW HB1
  go_wp2_with fail
  go_loopw [12] (fun j wr => ∃ i : Nat, j = .int .i64 (i : Nat) ∧ i ≤ ops.length ∧ Below w.heap.size w wr ∧ ∃ st, Wd wr w.heap.size W st) (fun j _ => ops.length - (intOf j).toNat)
  case atStart => exact ⟨0, rfl, Nat.zero_le _, HB2.out, _, HW2.out⟩
  case round =>
    obtain ⟨i, rfl, hi, hb, st, hw⟩ := hrel
    have HB := hide hb
    have HW := hide hw
    have zr := hb.size
    clear hb hw HB2 HW2
    by_cases hlt : i < ops.length
    · obtain ⟨x, hx⟩ : ∃ x, ops[i]? = some x := ⟨_, List.getElem?_eq_getElem hlt⟩
      obtain ⟨ad, cap, hv, hop⟩ := opsAt_get HO.out hx
      simp only [Value.slice.injEq] at hv
      obtain ⟨rfl, _, rfl⟩ := hv
      obtain ⟨kk, s, t, dst, n, lst, bv, zs, bs⟩ := x
      obtain ⟨a1, k1, rfl⟩ := ints_form (w := w) (v := lst) (zs := zs) hop.2.2.2.2.2.2.2.1
      obtain ⟨a2, k2, rfl⟩ := src_form (w := w) (v := bv) (bs := bs) hop.2.2.2.2.2.2.2.2.1
      have HP := hide hop
      obtain ⟨_, _, _, _, _, _, _, hz, hs, lz, lb⟩ := hop
      have HZ := hide hz
      have HSR := hide hs
      have HLZ := hide lz
      have HLB := hide lb
      obtain ⟨c0, c1, c2, c3, c4, c5, c6⟩ := opAt_cells (opAt_keep HP.out HB.out)
      clear hz hs lz lb hx
      dsimp only at c0 c1 c2 c3 c4 c5 c6
      have hii : (i : Int) < (ops.length : Int) := by omega
      go_upto_region 7 with (fail)
      have hbx := (Below.refl wr.heap.size wr).alloc (Nat.le_refl _) (.cells #[.int .i64 kk, .int .i64 s, .int .i64 t, .int .i64 dst, .int .i64 n, .slice a1 zs.length k1, .slice a2 bs.length k2] 77)
      have hbox : (wr.alloc (.cells #[.int .i64 kk, .int .i64 s, .int .i64 t, .int .i64 dst, .int .i64 n, .slice a1 zs.length k1, .slice a2 bs.length k2] 77)).heap[wr.heap.size]? = some (.cells #[.int .i64 kk, .int .i64 s, .int .i64 t, .int .i64 dst, .int .i64 n, .slice a1 zs.length k1, .slice a2 bs.length k2] 77 (0, 0)) := heap_new rfl _
      have HB3 := hide (HB.out.trans (hbx.mono zr))
      have HW3 := hide (HW.out.keep hbx)
      clear c0 c1 c2 c3 c4 c5 c6
      obtain ⟨c0, c1, c2, c3, c4, c5, c6⟩ := cells7 hbox
      clear hbox hbx HB HW
      generalize wr.alloc (.cells #[.int .i64 kk, .int .i64 s, .int .i64 t, .int .i64 dst, .int .i64 n, .slice a1 zs.length k1, .slice a2 bs.length k2] 77) = w3 at *
      have HC := hide (play_any w w3 E HE.out HT.out hg HB3.out HW3.out ⟨kk, s, t, dst, n, .slice a1 zs.length k1, .slice a2 bs.length k2, zs, bs⟩ HZ.out HSR.out HLZ.out HLB.out)
      go_wp2_with fail
      refine HC.out.mono ?_
      rintro e w4 ⟨rfl, st4, hw4, hb4⟩
      have HW4 := hide hw4
      have HB4 := hide hb4
      clear hw4 hb4 c0 c1 c2 c3 c4 c5 c6
      go_wp2_with fail
      exact ⟨⟨i + 1, by push_cast; rfl, by omega, HB4.out, _, HW4.out⟩, by simp only [intOf]; omega⟩
    · obtain rfl : i = ops.length := by omega
      go_wp2_with fail
      go_ret
      exact ⟨rfl, HB.out⟩
end Go.Proofs.YtmkbbekeimnajaaDoor
