/- texts of this proof, one behind the other: Pa2 Wm Pb Gz -/
import Derived.Test.YtmkbbekeimnajaaDoorMPlays0
import Derived.Test.YtmkbbekeimnajaaDoorMPlays1
import Derived.Test.YtmkbbekeimnajaaDoorMPlays2
import Derived.Test.YtmkbbekeimnajaaDoorMPlays3
import Derived.Test.YtmkbbekeimnajaaDoorMPlays4
import Derived.Test.YtmkbbekeimnajaaDoorMPlays5
import Derived.Test.YtmkbbekeimnajaaDoorMPlays6
import Derived.Test.YtmkbbekeimnajaaDoorMPlays7
import Derived.Test.YtmkbbekeimnajaaDoorMPlays8
import Derived.Test.YtmkbbekeimnajaaDoorMPlays9
import Derived.Test.YtmkbbekeimnajaaDoorMPlays10
import Derived.Test.YtmkbbekeimnajaaDoorMPlays11
import Derived.Test.YtmkbbekeimnajaaDoorMPlays12
import Derived.Test.YtmkbbekeimnajaaDoorMPlays13
import Derived.Test.YtmkbbekeimnajaaDoorMPlays14
import Derived.Test.YtmkbbekeimnajaaDoorMPlays15
import Derived.Test.YtmkbbekeimnajaaDoorMPlays16
import Derived.Test.YtmkbbekeimnajaaDoorMPlays17
import Derived.Test.YtmkbbekeimnajaaDoorMPlays18
import Derived.Test.YtmkbbekeimnajaaDoorMPlays19
import Derived.Test.YtmkbbekeimnajaaDoorMPlays20
import Derived.Sort.LoopGhostIn
/-! Pa2: asks (74): Equal; kinds that do nothing -/
namespace Go.Proofs.YtmkbbekeimnajaaDoor
open Go.RowKit Ds
set_option maxRecDepth 100000 in
set_option maxHeartbeats 1000000 in
theorem asks_equal (w0 w : World) (E : Nat → Addr) (hE : Errs w0 E allErrs) (hT : DeBr w0) (hg : 25 ≤ w0.heap.size) (hb : Below w0.heap.size w0 w) {W : Nat} {st : Nat → Option SlotR} (hW : Wd w w0.heap.size W st) (s t dst n : Int) (lst bv : Value) :
    Calls Tryd.prog 74 #[.pointer (some ⟨W, 0, none⟩), OpV 19 s t dst n lst bv] w fun e w' => Done w0 W e w' := by
  have HEW := hide hE
  have HTW := hide hT
  have HB0 := hide hb
  have HW := hide hW
  have hz := hW.size
  clear hE hT hb hW
  go_enter Tryd.func74, Tryd.ntmps74
  go_upto_region 1 with (fail)
  have hbx := (Below.refl w.heap.size w).alloc (Nat.le_refl _) (opBox 19 s t dst n lst bv)
  have hbox : (w.alloc (opBox 19 s t dst n lst bv)).heap[w.heap.size]? = some (opBox 19 s t dst n lst bv) := heap_new rfl _
  have HW1 := hide (HW.out.keep hbx)
  have HB1 := hide (HB0.out.trans (hbx.mono hz))
  obtain ⟨c0, c1, c2, c3, c4, c5, c6⟩ := cells7 hbox
  have HBOX := hide hbox
  clear hbx hbox HW HB0
  generalize w.alloc (opBox 19 s t dst n lst bv) = w1 at *
  obtain ⟨a, ha⟩ : ∃ a, (s % 4).toNat = a := ⟨_, rfl⟩
  obtain ⟨b, hb'⟩ : ∃ b, (t % 4).toNat = b := ⟨_, rfl⟩
  have HSA := hide (fun q => slot_any (w1.drewN q) s)
  have HSB := hide (fun q => slot_any (w1.drewN q) t)
  rw [ha] at HSA
  rw [hb'] at HSB
  have hal : a < 4 := by omega
  have hbl : b < 4 := by omega
  have hai : (a : Int) < 4 := by omega
  have hbi : (b : Int) < 4 := by omega
  clear ha hb'
  go_quiet (first | (go_at_call 88; with_reducible exact Calls.quiet_of_same ((HSA.out _).mono (fun _ _ h => ⟨h.1, h.2.symm⟩))) | (go_at_call 88; with_reducible exact Calls.quiet_of_same ((HSB.out _).mono (fun _ _ h => ⟨h.1, h.2.symm⟩))))
  have HW2 := hide (HW1.out.keep (below_drewN (Below.refl _ _) nq))
  have HB2 := hide (below_drewN HB1.out nq)
  have HBX2 := hide (show (w1.drewN nq).heap[w.heap.size]? = some (opBox 19 s t dst n lst bv) from HBOX.out)
  clear HW1 HB1 HBOX HSA HSB c0 c1 c2 c3 c4 c5 c6
  generalize w1.drewN nq = w2 at *
  obtain ⟨c0, c1, c2, c3, c4, c5, c6⟩ := cells7 HBX2.out
  cases hst : st a with
  | none =>
    obtain ⟨k1, k4⟩ := Rm.void ⟨HW2.out, HB2.out⟩ hal hst
    have HD := hide (show Done w0 W (.returned (.bool true)) w2 from ⟨rfl, st, HW2.out, HB2.out⟩)
    clear hst
    go_wp2_with fail
    go_ret
    exact HD.out
  | some r =>
    have HST := hide hst
    have HSET := hide (HW2.out.sets a r hal hst)
    have hsm := HSET.out.1.small
    clear hst
    have hSz := HW2.out.size
    obtain ⟨k1, k2, k3, k4⟩ := Rm.full ⟨HW2.out, HB2.out⟩ hal HST.out
    have hbx8 := (Below.refl w2.heap.size w2).alloc (Nat.le_refl _) (refBox r.gr r.n)
    have HRA := hide (show Ra2 w0 W st a r w.heap.size w2.heap.size (opBox 19 s t dst n lst bv) (w2.alloc (refBox r.gr r.n)).drew from
      ⟨(Rm.keep ⟨HW2.out, HB2.out⟩ hbx8).keep ((Below.refl _ _).drew), HST.out, hal, (hbx8.block _ (heap_lt HBX2.out)).trans HBX2.out, heap_new rfl _, debr_below HTW.out ((HB2.out.trans (hbx8.mono hSz)).drew) (by omega), by show 15 < (w2.alloc _).heap.size; rw [World.size_alloc]; omega⟩)
    go_upto_region 4 with (fail)
    have n2 := World.new_ne w2 _ k1
    dsimp only at n2
    go_region_held_law (fun w' => w'.cell? ⟨W, a, none⟩ = some (.pointer (some ⟨r.S, 0, none⟩)) ∧ w'.cell? ⟨W, 4 + a * 2, none⟩ = some (.int .i64 (r.n : Nat)) ∧ w'.cell? ⟨W, 4 + a * 2 + 1, none⟩ = some (.slice (some ⟨r.gr, 0, none⟩) r.n r.n)) (first | exact ⟨k1, k2, k3⟩ | (refine ⟨?_, ?_, ?_⟩ <;> simp [World.cell?_alloc_some, World.cell?_setCell_far, k1, k2, k3, n2])) (fail)
    clear hbx8 k1 k2 k3 k4 HSET c0 c1 c2 c3 c4 c5 c6 n2
    clear HW2 HB2 HBX2
    obtain ⟨T8, hT8⟩ : ∃ T, w2.heap.size = T := ⟨_, rfl⟩
    rw [hT8] at HRA
    rw [show (⟨w2.heap.size, 0, none⟩ : Addr) = ⟨T8, 0, none⟩ from by rw [hT8]]
    clear hT8
    generalize (w2.alloc (.cells #[.int .i64 (r.n : Nat), .slice (some ⟨r.gr, 0, none⟩) r.n r.n] 54)).drew = w3 at *
    obtain ⟨S1, g1, cap1, N, gr1, m1⟩ := r
    obtain ⟨b0, b1⟩ := cells2 HRA.out.bx
    obtain ⟨c0, c1, c2, c3, c4, c5, c6⟩ := cells7 HRA.out.ob
    have hsm : N ≤ 1048576 := hsm
    cases hst2 : st b with
    | none =>
      obtain ⟨l1, l4⟩ := Rm.void HRA.out.rm hbl hst2
      clear hst2
      go_wp2_with fail
      refine (equal_nil w3 HRA.out.set).mono ?_
      rintro e w4 ⟨rfl, q, rfl⟩
      have HD := hide (HRA.out.keep (below_drewN (Below.refl _ _) q)).done
      go_wp2_with fail
      go_ret
      exact HD.out
    | some r2 =>
      have HST2 := hide hst2
      clear hst2
      obtain ⟨S2, g2, cap2, N2, gr2, m2⟩ := r2
      obtain ⟨l1, l2, l3, l4⟩ := Rm.full HRA.out.rm hbl HST2.out
      dsimp only at l1 l2 l3
      have h2 := HRA.out.rm.wd.sets b _ hbl HST2.out
      have hs2 := h2.1
      have hr2 := h2.2.1
      dsimp only at hs2 hr2
      have hs1 := HRA.out.set
      have hr1 := HRA.out.own
      dsimp only at hs1 hr1
      have hsm2 := hs2.small
      have hd := fun q => below_drewN (Below.refl w3.heap.size w3) q
      obtain ⟨x, HX, HY⟩ : ∃ x : Bool, Hid (Calls Tryd.prog 35 #[.pointer (some ⟨S1, 0, none⟩), .pointer (some ⟨S2, 0, none⟩)] w3.drew fun e w' => e = .returned (.bool x) ∧ ∃ q, w' = w3.drew.drewN q) ∧ Hid (∀ q, Calls Tryd.prog 100 #[RefV gr1 N, RefV gr2 N2] (w3.drewN q) fun e w' => e = .returned (.bool x) ∧ Below (w3.drewN q).heap.size (w3.drewN q) w') := by
        by_cases hsame : N = N2 ∧ m1 = m2
        · obtain ⟨rfl, rfl⟩ := hsame
          exact ⟨true, hide (equal_same w3.drew (hs1.keep ((Below.refl _ _).drew)) (hs2.keep ((Below.refl _ _).drew))), hide (fun q => ref_equal_any _ (hr1.keep (hd q)) (hr2.keep (hd q)) hs1.off hs2.off hsm hsm2 true ⟨fun _ => ⟨rfl, rfl⟩, fun _ => rfl⟩)⟩
        · exact ⟨false, hide (equal_no w3.drew (hs1.keep ((Below.refl _ _).drew)) (hs2.keep ((Below.refl _ _).drew)) (fun e1 e2 => hsame ⟨e1, e2⟩)), hide (fun q => ref_equal_any _ (hr1.keep (hd q)) (hr2.keep (hd q)) hs1.off hs2.off hsm hsm2 false ⟨fun h => (by cases h), fun h => absurd h hsame⟩)⟩
      clear h2 hs2 hr2 hs1 hr1 hd
      go_upto_region 39 with (fail)
      have hst := HRA.out.keep (w' := w3.drew) ((Below.refl _ _).drew)
      have HALL := hide (fun q => HRA.out.keep (below_drewN (Below.refl w3.heap.size w3) q))
      clear HRA c0 c1 c2 c3 c4 c5 c6 l4
      go_region_held_law (fun w' => w'.cell? ⟨T8, 0, none⟩ = some (.int .i64 (N : Nat)) ∧ w'.cell? ⟨T8, 1, none⟩ = some (.slice (some ⟨gr1, 0, none⟩) N N) ∧ w'.cell? ⟨W, b, none⟩ = some (.pointer (some ⟨S2, 0, none⟩)) ∧ w'.cell? ⟨W, 4 + b * 2, none⟩ = some (.int .i64 (N2 : Nat)) ∧ w'.cell? ⟨W, 4 + b * 2 + 1, none⟩ = some (.slice (some ⟨gr2, 0, none⟩) N2 N2)) (exact ⟨(cells2 (by assumption : Ra2 w0 W st a ⟨S1, g1, cap1, N, gr1, m1⟩ w.heap.size T8 (opBox 19 s t dst n lst bv) _).bx).1, (cells2 (by assumption : Ra2 w0 W st a ⟨S1, g1, cap1, N, gr1, m1⟩ w.heap.size T8 (opBox 19 s t dst n lst bv) _).bx).2, (Rm.full (by assumption : Ra2 w0 W st a ⟨S1, g1, cap1, N, gr1, m1⟩ w.heap.size T8 (opBox 19 s t dst n lst bv) _).rm hbl HST2.out).1, (Rm.full (by assumption : Ra2 w0 W st a ⟨S1, g1, cap1, N, gr1, m1⟩ w.heap.size T8 (opBox 19 s t dst n lst bv) _).rm hbl HST2.out).2.1, (Rm.full (by assumption : Ra2 w0 W st a ⟨S1, g1, cap1, N, gr1, m1⟩ w.heap.size T8 (opBox 19 s t dst n lst bv) _).rm hbl HST2.out).2.2.1⟩) (first
        | (go_at_call 35; with_reducible refine HX.out.mono ?_; rintro e w6 ⟨rfl, q6, rfl⟩; have hst6 := HALL.out (1 + q6))
        | (go_at_call 100; with_reducible refine (HY.out _).mono ?_; rintro e w7 ⟨rfl, hb7⟩; have hst7 := Ra2.keep (by assumption : Ra2 w0 W st a ⟨S1, g1, cap1, N, gr1, m1⟩ w.heap.size T8 (opBox 19 s t dst n lst bv) _) hb7; clear hb7))
      all_goals
        have HD := hide (Ra2.done (by assumption : Ra2 w0 W st a ⟨S1, g1, cap1, N, gr1, m1⟩ w.heap.size T8 (opBox 19 s t dst n lst bv) _))
        go_wp2_with fail
        go_ret
        exact HD.out
set_option maxRecDepth 100000 in
set_option maxHeartbeats 1000000 in
theorem asks_other (w0 w : World) (E : Nat → Addr) (hE : Errs w0 E allErrs) (hT : DeBr w0) (hg : 25 ≤ w0.heap.size) (hb : Below w0.heap.size w0 w) {W : Nat} {st : Nat → Option SlotR} (hW : Wd w w0.heap.size W st) (s t dst n : Int) (lst bv : Value) (k : Int) (hk : (k < 4 ∨ 13 < k) ∧ k ≠ 19 ∧ k ≠ 20) :
    Calls Tryd.prog 74 #[.pointer (some ⟨W, 0, none⟩), OpV k s t dst n lst bv] w fun e w' => Done w0 W e w' := by
  have HEW := hide hE
  have HTW := hide hT
  have HB0 := hide hb
  have HW := hide hW
  have hz := hW.size
  clear hE hT hb hW
  go_enter Tryd.func74, Tryd.ntmps74
  go_upto_region 1 with (fail)
  have hbx := (Below.refl w.heap.size w).alloc (Nat.le_refl _) (opBox k s t dst n lst bv)
  have hbox : (w.alloc (opBox k s t dst n lst bv)).heap[w.heap.size]? = some (opBox k s t dst n lst bv) := heap_new rfl _
  have HW1 := hide (HW.out.keep hbx)
  have HB1 := hide (HB0.out.trans (hbx.mono hz))
  obtain ⟨c0, c1, c2, c3, c4, c5, c6⟩ := cells7 hbox
  have HBOX := hide hbox
  clear hbx hbox HW HB0
  generalize w.alloc (opBox k s t dst n lst bv) = w1 at *
  obtain ⟨a, ha⟩ : ∃ a, (s % 4).toNat = a := ⟨_, rfl⟩
  obtain ⟨b, hb'⟩ : ∃ b, (t % 4).toNat = b := ⟨_, rfl⟩
  have HSA := hide (fun q => slot_any (w1.drewN q) s)
  have HSB := hide (fun q => slot_any (w1.drewN q) t)
  rw [ha] at HSA
  rw [hb'] at HSB
  have hal : a < 4 := by omega
  have hbl : b < 4 := by omega
  have hai : (a : Int) < 4 := by omega
  have hbi : (b : Int) < 4 := by omega
  clear ha hb'
  go_quiet (first | (go_at_call 88; with_reducible exact Calls.quiet_of_same ((HSA.out _).mono (fun _ _ h => ⟨h.1, h.2.symm⟩))) | (go_at_call 88; with_reducible exact Calls.quiet_of_same ((HSB.out _).mono (fun _ _ h => ⟨h.1, h.2.symm⟩))))
  have HW2 := hide (HW1.out.keep (below_drewN (Below.refl _ _) nq))
  have HB2 := hide (below_drewN HB1.out nq)
  have HBX2 := hide (show (w1.drewN nq).heap[w.heap.size]? = some (opBox k s t dst n lst bv) from HBOX.out)
  clear HW1 HB1 HBOX HSA HSB c0 c1 c2 c3 c4 c5 c6
  generalize w1.drewN nq = w2 at *
  obtain ⟨c0, c1, c2, c3, c4, c5, c6⟩ := cells7 HBX2.out
  cases hst : st a with
  | none =>
    obtain ⟨k1, k4⟩ := Rm.void ⟨HW2.out, HB2.out⟩ hal hst
    have HD := hide (show Done w0 W (.returned (.bool true)) w2 from ⟨rfl, st, HW2.out, HB2.out⟩)
    clear hst
    go_wp2_with fail
    go_ret
    exact HD.out
  | some r =>
    have HST := hide hst
    have HSET := hide (HW2.out.sets a r hal hst)
    have hsm := HSET.out.1.small
    clear hst
    have hSz := HW2.out.size
    obtain ⟨k1, k2, k3, k4⟩ := Rm.full ⟨HW2.out, HB2.out⟩ hal HST.out
    have hbx8 := (Below.refl w2.heap.size w2).alloc (Nat.le_refl _) (refBox r.gr r.n)
    have HRA := hide (show Ra2 w0 W st a r w.heap.size w2.heap.size (opBox k s t dst n lst bv) (w2.alloc (refBox r.gr r.n)).drew from
      ⟨(Rm.keep ⟨HW2.out, HB2.out⟩ hbx8).keep ((Below.refl _ _).drew), HST.out, hal, (hbx8.block _ (heap_lt HBX2.out)).trans HBX2.out, heap_new rfl _, debr_below HTW.out ((HB2.out.trans (hbx8.mono hSz)).drew) (by omega), by show 15 < (w2.alloc _).heap.size; rw [World.size_alloc]; omega⟩)
    go_upto_region 4 with (fail)
    have n2 := World.new_ne w2 _ k1
    dsimp only at n2
    go_region_held_law (fun w' => w'.cell? ⟨W, a, none⟩ = some (.pointer (some ⟨r.S, 0, none⟩)) ∧ w'.cell? ⟨W, 4 + a * 2, none⟩ = some (.int .i64 (r.n : Nat)) ∧ w'.cell? ⟨W, 4 + a * 2 + 1, none⟩ = some (.slice (some ⟨r.gr, 0, none⟩) r.n r.n)) (first | exact ⟨k1, k2, k3⟩ | (refine ⟨?_, ?_, ?_⟩ <;> simp [World.cell?_alloc_some, World.cell?_setCell_far, k1, k2, k3, n2])) (fail)
    clear hbx8 k1 k2 k3 k4 HSET c0 c1 c2 c3 c4 c5 c6 n2
    clear HW2 HB2 HBX2
    obtain ⟨T8, hT8⟩ : ∃ T, w2.heap.size = T := ⟨_, rfl⟩
    rw [hT8] at HRA
    rw [show (⟨w2.heap.size, 0, none⟩ : Addr) = ⟨T8, 0, none⟩ from by rw [hT8]]
    clear hT8
    generalize (w2.alloc (.cells #[.int .i64 (r.n : Nat), .slice (some ⟨r.gr, 0, none⟩) r.n r.n] 54)).drew = w3 at *
    obtain ⟨S1, g1, cap1, N, gr1, m1⟩ := r
    obtain ⟨b0, b1⟩ := cells2 HRA.out.bx
    obtain ⟨c0, c1, c2, c3, c4, c5, c6⟩ := cells7 HRA.out.ob
    have hsm : N ≤ 1048576 := hsm
    have HD := hide HRA.out.done
    clear hsm
    have q4 : ¬ k = 4 := by omega
    have q5 : ¬ k = 5 := by omega
    have q6 : ¬ k = 6 := by omega
    have q7 : ¬ k = 7 := by omega
    have q8 : ¬ k = 8 := by omega
    have q9 : ¬ k = 9 := by omega
    have q10 : ¬ k = 10 := by omega
    have q11 : ¬ k = 11 := by omega
    have q12 : ¬ k = 12 := by omega
    have q13 : ¬ k = 13 := by omega
    have q19 : ¬ k = 19 := by omega
    have q20 : ¬ k = 20 := by omega
    clear hk
    go_wp2_with fail
    go_ret
    exact HD.out
end Go.Proofs.YtmkbbekeimnajaaDoor

/-! Wm: a play's memory while one set has changed and the document's set not yet -/
namespace Go.Proofs.YtmkbbekeimnajaaDoor
open Go.RowKit Ds
structure Wm (w : World) (B W : Nat) (st : Nat → Option SlotR) (a : Nat) (r : SlotR) (m' : Nat → Bool) : Prop where
  blk : ∃ cs : Array Value, w.heap[W]? = some (.cells cs 75 (0, 0)) ∧ ∀ i, i < 4 → cs[i]? = some (pS (st i)) ∧ cs[4 + i * 2]? = some (pN (st i)) ∧ cs[4 + i * 2 + 1]? = some (pI (st i)) ∧ cs[12 + i]? = some (pH (st i))
  ha : a < 4
  hst : st a = some r
  seta : SetAt w r.S r.g r.cap r.n m'
  owna : ROwn w r.gr r.n r.m
  gea : B ≤ r.S ∧ B ≤ r.g
  rest : ∀ i s, i < 4 → i ≠ a → st i = some s → SetAt w s.S s.g s.cap s.n s.m ∧ ROwn w s.gr s.n s.m ∧ B ≤ s.S ∧ B ≤ s.g
  ap : ∀ i j s t, i < 4 → j < 4 → i ≠ j → st i = some s → st j = some t → s.S ≠ t.S ∧ s.g ≠ t.g
  base : B ≤ W
  size : B ≤ w.heap.size
section
variable {w w' : World} {B W a : Nat} {st : Nat → Option SlotR} {r : SlotR} {m' : Nat → Bool}
theorem Wm.same (h : Wd w B W st) (ha : a < 4) (hr : st a = some r) : Wm w B W st a r r.m := by
  obtain ⟨p, q, k⟩ := h.sets a r ha hr
  exact ⟨h.blk, ha, hr, p, q, k, fun i s hi _ hs => h.sets i s hi hs, h.ap, h.base, h.size⟩
theorem Wm.foot (h : Wd w B W st) (ha : a < 4) (hr : st a = some r) (hs : SetAt w' r.S r.g r.cap r.n m') (hf : Foot w w' (fun k => k = r.S ∨ k = r.g)) : Wm w' B W st a r m' := by
  obtain ⟨p, q, k⟩ := h.sets a r ha hr
  obtain ⟨cs, k1, k2⟩ := h.blk
  have hk := fun t => keepTy_set p hf t
  refine ⟨⟨cs, hk 75 (by decide) (by decide) _ _ _ k1, k2⟩, ha, hr, hs, hk 4 (by decide) (by decide) _ _ _ q, k, fun i s hi hia hst => ?_, h.ap, h.base, Nat.le_trans h.size hf.size⟩
  obtain ⟨p2, q2, k2⟩ := h.sets i s hi hst
  have hap := h.ap i a s r hi ha hia hst hr
  exact ⟨p2.foot p hf hap.1 hap.2, hk 4 (by decide) (by decide) _ _ _ q2, k2⟩
theorem Wm.keep (h : Wm w B W st a r m') (hb : Below w.heap.size w w') : Wm w' B W st a r m' := by
  obtain ⟨cs, k1, k2⟩ := h.blk
  exact ⟨⟨cs, (hb.block _ (heap_lt k1)).trans k1, k2⟩, h.ha, h.hst, h.seta.keep hb, h.owna.keep hb, h.gea, fun i s hi hia hs => ⟨(h.rest i s hi hia hs).1.keep hb, (h.rest i s hi hia hs).2.1.keep hb, (h.rest i s hi hia hs).2.2⟩, h.ap, h.base, Nat.le_trans h.size hb.size⟩
theorem Wm.cell (h : Wm w B W st a r m') : w.cell? ⟨W, 4 + a * 2, none⟩ = some (.int .i64 (r.n : Nat)) ∧ w.cell? ⟨W, 4 + a * 2 + 1, none⟩ = some (.slice (some ⟨r.gr, 0, none⟩) r.n r.n) ∧ w.frozen? ⟨W, 4 + a * 2, none⟩ = false ∧ w.frozen? ⟨W, 4 + a * 2 + 1, none⟩ = false := by
  obtain ⟨cs, k1, k2⟩ := h.blk
  have := k2 a h.ha
  rw [h.hst] at this
  rw [cell_at k1, cell_at k1]
  exact ⟨this.2.1, this.2.2.1, free_at k1 _, free_at k1 _⟩
/-- the document's new set is stored -/
theorem Wm.store {gr2 : Nat} (h : Wm w B W st a r m') (ho : ROwn w gr2 r.n m') :
    Wd ((w.setCell ⟨W, 4 + a * 2, none⟩ (.int .i64 (r.n : Nat))).setCell ⟨W, 4 + a * 2 + 1, none⟩ (.slice (some ⟨gr2, 0, none⟩) r.n r.n)) B W (updS st a (some ⟨r.S, r.g, r.cap, r.n, gr2, m'⟩)) := by
  obtain ⟨cs, k1, k2⟩ := h.blk
  have f2 := heap_set k1 (i := 4 + a * 2) (.int .i64 (r.n : Nat))
  have f3 := heap_set f2 (i := 4 + a * 2 + 1) (.slice (some ⟨gr2, 0, none⟩) r.n r.n)
  have hk : ∀ ty : TypeId, 75 ≠ ty → KeepTy w ((w.setCell ⟨W, 4 + a * 2, none⟩ (.int .i64 (r.n : Nat))).setCell ⟨W, 4 + a * 2 + 1, none⟩ (.slice (some ⟨gr2, 0, none⟩) r.n r.n)) ty :=
    fun ty hty => (keepTy_at k1 hty _).trans (keepTy_at f2 hty _)
  have ha := h.ha
  refine ⟨⟨_, f3, fun i hi => ?_⟩, fun i s hi hs' => ?_, fun i j s s2 hi hj hij hs1 hs2 => ?_, h.base, by rw [World.size_setCell, World.size_setCell]; exact h.size⟩
  · obtain ⟨e1, e2, e3, e4⟩ := k2 i hi
    by_cases e : i = a
    · subst e
      rw [h.hst] at e1 e2 e3 e4
      rw [updS_at]
      refine ⟨?_, ?_, ?_, ?_⟩
      · rw [get_far (by omega), get_far (by omega)]; exact e1
      · rw [get_far (by omega)]; exact get_set e2
      · exact get_set (x := pI (some r)) (by rw [get_far (by omega)]; exact e3)
      · rw [get_far (by omega), get_far (by omega)]; exact e4
    · rw [updS_far _ _ e]
      refine ⟨?_, ?_, ?_, ?_⟩
      · rw [get_far (by omega), get_far (by omega)]; exact e1
      · rw [get_far (by omega), get_far (by omega)]; exact e2
      · rw [get_far (by omega), get_far (by omega)]; exact e3
      · rw [get_far (by omega), get_far (by omega)]; exact e4
  · by_cases e : i = a
    · subst e
      rw [updS_at] at hs'
      obtain rfl := Option.some.inj hs'
      exact ⟨h.seta.keepTy (hk 82 (by decide)) (hk 83 (by decide)), hk 4 (by decide) _ _ _ ho, h.gea⟩
    · rw [updS_far _ _ e] at hs'
      obtain ⟨p, q, c⟩ := h.rest i s hi e hs'
      exact ⟨p.keepTy (hk 82 (by decide)) (hk 83 (by decide)), hk 4 (by decide) _ _ _ q, c⟩
  · by_cases e : i = a
    · subst e
      rw [updS_at] at hs1
      obtain rfl := Option.some.inj hs1
      rw [updS_far _ _ (fun e => hij e.symm)] at hs2
      exact h.ap i j r s2 hi hj hij h.hst hs2
    · rw [updS_far _ _ e] at hs1
      by_cases e2 : j = a
      · subst e2
        rw [updS_at] at hs2
        obtain rfl := Option.some.inj hs2
        exact h.ap i j s r hi hj hij hs1 h.hst
      · rw [updS_far _ _ e2] at hs2
        exact h.ap i j s s2 hi hj hij hs1 hs2
end
end Go.Proofs.YtmkbbekeimnajaaDoor

/-! Pb: asks (74): Add, Remove -/
namespace Go.Proofs.YtmkbbekeimnajaaDoor
open Go.RowKit Ds
set_option maxRecDepth 100000 in
set_option maxHeartbeats 1000000 in
theorem asks_add (w0 w : World) (E : Nat → Addr) (hE : Errs w0 E allErrs) (hT : DeBr w0) (hg : 25 ≤ w0.heap.size) (hb : Below w0.heap.size w0 w) {W : Nat} {st : Nat → Option SlotR} (hW : Wd w w0.heap.size W st) (s t dst n : Int) (lst bv : Value) :
    Calls Tryd.prog 74 #[.pointer (some ⟨W, 0, none⟩), OpV 4 s t dst n lst bv] w fun e w' => Done w0 W e w' := by
  have HEW := hide hE
  have HTW := hide hT
  have HB0 := hide hb
  have HW := hide hW
  have hz := hW.size
  clear hE hT hb hW
  go_enter Tryd.func74, Tryd.ntmps74
  go_upto_region 1 with (fail)
  have hbx := (Below.refl w.heap.size w).alloc (Nat.le_refl _) (opBox 4 s t dst n lst bv)
  have hbox : (w.alloc (opBox 4 s t dst n lst bv)).heap[w.heap.size]? = some (opBox 4 s t dst n lst bv) := heap_new rfl _
  have HW1 := hide (HW.out.keep hbx)
  have HB1 := hide (HB0.out.trans (hbx.mono hz))
  obtain ⟨c0, c1, c2, c3, c4, c5, c6⟩ := cells7 hbox
  have HBOX := hide hbox
  clear hbx hbox HW HB0
  generalize w.alloc (opBox 4 s t dst n lst bv) = w1 at *
  obtain ⟨a, ha⟩ : ∃ a, (s % 4).toNat = a := ⟨_, rfl⟩
  obtain ⟨b, hb'⟩ : ∃ b, (t % 4).toNat = b := ⟨_, rfl⟩
  have HSA := hide (fun q => slot_any (w1.drewN q) s)
  have HSB := hide (fun q => slot_any (w1.drewN q) t)
  rw [ha] at HSA
  rw [hb'] at HSB
  have hal : a < 4 := by omega
  have hbl : b < 4 := by omega
  have hai : (a : Int) < 4 := by omega
  have hbi : (b : Int) < 4 := by omega
  clear ha hb'
  go_quiet (first | (go_at_call 88; with_reducible exact Calls.quiet_of_same ((HSA.out _).mono (fun _ _ h => ⟨h.1, h.2.symm⟩))) | (go_at_call 88; with_reducible exact Calls.quiet_of_same ((HSB.out _).mono (fun _ _ h => ⟨h.1, h.2.symm⟩))))
  have HW2 := hide (HW1.out.keep (below_drewN (Below.refl _ _) nq))
  have HB2 := hide (below_drewN HB1.out nq)
  have HBX2 := hide (show (w1.drewN nq).heap[w.heap.size]? = some (opBox 4 s t dst n lst bv) from HBOX.out)
  clear HW1 HB1 HBOX HSA HSB c0 c1 c2 c3 c4 c5 c6
  generalize w1.drewN nq = w2 at *
  obtain ⟨c0, c1, c2, c3, c4, c5, c6⟩ := cells7 HBX2.out
  cases hst : st a with
  | none =>
    obtain ⟨k1, k4⟩ := Rm.void ⟨HW2.out, HB2.out⟩ hal hst
    have HD := hide (show Done w0 W (.returned (.bool true)) w2 from ⟨rfl, st, HW2.out, HB2.out⟩)
    clear hst
    go_wp2_with fail
    go_ret
    exact HD.out
  | some r =>
    have HST := hide hst
    have HSET := hide (HW2.out.sets a r hal hst)
    have hsm := HSET.out.1.small
    clear hst
    have hSz := HW2.out.size
    obtain ⟨k1, k2, k3, k4⟩ := Rm.full ⟨HW2.out, HB2.out⟩ hal HST.out
    have hbx8 := (Below.refl w2.heap.size w2).alloc (Nat.le_refl _) (refBox r.gr r.n)
    have HRA := hide (show Ra2 w0 W st a r w.heap.size w2.heap.size (opBox 4 s t dst n lst bv) (w2.alloc (refBox r.gr r.n)).drew from
      ⟨(Rm.keep ⟨HW2.out, HB2.out⟩ hbx8).keep ((Below.refl _ _).drew), HST.out, hal, (hbx8.block _ (heap_lt HBX2.out)).trans HBX2.out, heap_new rfl _, debr_below HTW.out ((HB2.out.trans (hbx8.mono hSz)).drew) (by omega), by show 15 < (w2.alloc _).heap.size; rw [World.size_alloc]; omega⟩)
    go_upto_region 4 with (fail)
    have n2 := World.new_ne w2 _ k1
    dsimp only at n2
    go_region_held_law (fun w' => w'.cell? ⟨W, a, none⟩ = some (.pointer (some ⟨r.S, 0, none⟩)) ∧ w'.cell? ⟨W, 4 + a * 2, none⟩ = some (.int .i64 (r.n : Nat)) ∧ w'.cell? ⟨W, 4 + a * 2 + 1, none⟩ = some (.slice (some ⟨r.gr, 0, none⟩) r.n r.n)) (first | exact ⟨k1, k2, k3⟩ | (refine ⟨?_, ?_, ?_⟩ <;> simp [World.cell?_alloc_some, World.cell?_setCell_far, k1, k2, k3, n2])) (fail)
    clear hbx8 k1 k2 k3 k4 HSET c0 c1 c2 c3 c4 c5 c6 n2
    clear HW2 HB2 HBX2
    obtain ⟨T8, hT8⟩ : ∃ T, w2.heap.size = T := ⟨_, rfl⟩
    rw [hT8] at HRA
    rw [show (⟨w2.heap.size, 0, none⟩ : Addr) = ⟨T8, 0, none⟩ from by rw [hT8]]
    clear hT8
    generalize (w2.alloc (.cells #[.int .i64 (r.n : Nat), .slice (some ⟨r.gr, 0, none⟩) r.n r.n] 54)).drew = w3 at *
    obtain ⟨S1, g1, cap1, N, gr1, m1⟩ := r
    obtain ⟨b0, b1⟩ := cells2 HRA.out.bx
    obtain ⟨c0, c1, c2, c3, c4, c5, c6⟩ := cells7 HRA.out.ob
    have hsm : N ≤ 1048576 := hsm
    by_cases hin : 0 ≤ n ∧ n < N
    · obtain ⟨i, rfl⟩ : ∃ i : Nat, n = (i : Int) := ⟨n.toNat, by omega⟩
      have hi : i < N := by omega
      clear hin
      cases hm : m1 i with
      | false =>
        have HMI := hide hm
        clear hm
        go_wp2_with fail
        refine (add_new w3 HRA.out.set i hi HMI.out).mono ?_
        rintro e w4 ⟨rfl, hs4, hf4⟩
        have hkt := fun ty => keepTy_set HRA.out.set hf4 ty
        have HM := hide (Wm.foot HRA.out.rm.wd hal HST.out (m' := put m1 i true) hs4 hf4)
        have HB4 := hide (HRA.out.rm.bel.trans (hf4.below (B := w0.heap.size) (fun k hk => by rcases hk with rfl | rfl; exact HM.out.gea.1; exact HM.out.gea.2) HRA.out.rm.wd.size))
        have H0 := hide (hkt 77 (by decide) (by decide) _ _ _ HRA.out.ob)
        have H8 := hide (hkt 54 (by decide) (by decide) _ _ _ HRA.out.bx)
        clear hs4 hf4 hkt HRA b0 b1 c0 c1 c2 c3 c4 c5 c6
        obtain ⟨b0, b1⟩ := cells2 H8.out
        obtain ⟨c0, c1, c2, c3, c4, c5, c6⟩ := cells7 H0.out
        have HPU := hide (ref_put_in w4 HM.out.owna i hi true hsm)
        dsimp only at HPU
        rw [HMI.out] at HPU
        go_wp2_with fail
        refine HPU.out.mono ?_
        rintro e w5 ⟨gr2, rfl, _, ho5, hb5⟩
        have HM5 := hide (HM.out.keep hb5)
        have HB5 := hide (HB4.out.trans (hb5.mono HM.out.size))
        have HO5 := hide (show ROwn w5 gr2 N (put m1 i true) from ho5)
        have hbx := (Below.refl w5.heap.size w5).alloc (Nat.le_refl _) (refBox gr2 N)
        have HM6 := hide (HM5.out.keep hbx)
        have HB6 := hide (HB5.out.trans (hbx.mono HM5.out.size))
        have HO6 := hide (HO5.out.keep hbx)
        have hT : (w5.alloc (refBox gr2 N)).heap[w5.heap.size]? = some (refBox gr2 N) := heap_new rfl _
        obtain ⟨d0, d1⟩ := cells2 hT
        have hne := (World.new_ne w5 _ HM5.out.cell.1)
        dsimp only at hne
        have hne' : W ≠ w5.heap.size := fun e => hne e.symm
        have HD2 := hide (HM6.out.store HO6.out)
        dsimp only at HD2
        clear hb5 hbx hT HM HB4 H8 H0 b0 b1 c0 c1 c2 c3 c4 c5 c6 HM5 HB5 HO5
        go_upto_region 14 with (fail)
        generalize w5.alloc (.cells #[.int .i64 (N : Nat), .slice (some ⟨gr2, 0, none⟩) N N] 54) = w6 at *
        obtain ⟨k2, k3, f2, f3⟩ := HM6.out.cell
        dsimp only at k2 k3
        go_region_held_law (fun w' => w'.cell? ⟨w5.heap.size, 0, none⟩ = some (.int .i64 (N : Nat)) ∧ w'.cell? ⟨w5.heap.size, 1, none⟩ = some (.slice (some ⟨gr2, 0, none⟩) N N)) (first | exact ⟨d0, d1⟩ | (constructor <;> simp [World.cell?_setCell_far, d0, d1, hne'])) (fail)
        have HW7 := hide (HD2.out.keep ((Below.refl _ _).drew))
        have HB7 := hide ((below_set (below_set HB6.out HM6.out.base (.int .i64 (N : Nat)) (i := 4 + a * 2)) HM6.out.base (.slice (some ⟨gr2, 0, none⟩) N N) (i := 4 + a * 2 + 1)).drew)
        clear HD2 HB6 HM6 HO6 k2 k3 f2 f3 d0 d1
        generalize ((w6.setCell ⟨W, 4 + a * 2, none⟩ (.int .i64 (N : Nat))).setCell ⟨W, 4 + a * 2 + 1, none⟩ (.slice (some ⟨gr2, 0, none⟩) N N)).drew = w7 at *
        go_wp2_with fail
        refine (num_nil w7).mono ?_
        rintro e w8 ⟨rfl, rfl⟩
        have HD := hide (show Done w0 W (.returned (.bool true)) w7 from ⟨rfl, _, HW7.out, HB7.out⟩)
        go_wp2_with fail
        go_ret
        exact HD.out

      | true =>
        have HMI := hide hm
        have HPT := hide (show put m1 i true = m1 from by funext x; unfold put; by_cases e : x = i; rw [if_pos e, e, HMI.out]; rw [if_neg e])
        clear hm
        go_wp2_with fail
        refine (add_old w3 HRA.out.set i hi HMI.out).mono ?_
        rintro e w4 ⟨rfl, rfl⟩
        have HM := hide (Wm.same ((HRA.out.keep (Below.refl _ _)).rm.wd) hal HST.out)
        dsimp only at HM
        have HB4 := hide ((HRA.out.keep (Below.refl _ _)).rm.bel)
        have H0 := hide ((HRA.out.keep (Below.refl _ _)).ob)
        have H8 := hide ((HRA.out.keep (Below.refl _ _)).bx)

        clear HRA b0 b1 c0 c1 c2 c3 c4 c5 c6
        obtain ⟨b0, b1⟩ := cells2 H8.out
        obtain ⟨c0, c1, c2, c3, c4, c5, c6⟩ := cells7 H0.out
        have HPU := hide (ref_put_in w3 HM.out.owna i hi true hsm)
        dsimp only at HPU
        rw [HMI.out] at HPU
        go_wp2_with fail
        refine HPU.out.mono ?_
        rintro e w5 ⟨gr2, rfl, _, ho5, hb5⟩
        have HM5 := hide (HM.out.keep hb5)
        have HB5 := hide (HB4.out.trans (hb5.mono HM.out.size))
        have HO5 := hide (show ROwn w5 gr2 N (m1) from (by rw [HPT.out] at ho5; exact ho5))
        have hbx := (Below.refl w5.heap.size w5).alloc (Nat.le_refl _) (refBox gr2 N)
        have HM6 := hide (HM5.out.keep hbx)
        have HB6 := hide (HB5.out.trans (hbx.mono HM5.out.size))
        have HO6 := hide (HO5.out.keep hbx)
        have hT : (w5.alloc (refBox gr2 N)).heap[w5.heap.size]? = some (refBox gr2 N) := heap_new rfl _
        obtain ⟨d0, d1⟩ := cells2 hT
        have hne := (World.new_ne w5 _ HM5.out.cell.1)
        dsimp only at hne
        have hne' : W ≠ w5.heap.size := fun e => hne e.symm
        have HD2 := hide (HM6.out.store HO6.out)
        dsimp only at HD2
        clear hb5 hbx hT HM HB4 H8 H0 b0 b1 c0 c1 c2 c3 c4 c5 c6 HM5 HB5 HO5
        go_upto_region 14 with (fail)
        generalize w5.alloc (.cells #[.int .i64 (N : Nat), .slice (some ⟨gr2, 0, none⟩) N N] 54) = w6 at *
        obtain ⟨k2, k3, f2, f3⟩ := HM6.out.cell
        dsimp only at k2 k3
        go_region_held_law (fun w' => w'.cell? ⟨w5.heap.size, 0, none⟩ = some (.int .i64 (N : Nat)) ∧ w'.cell? ⟨w5.heap.size, 1, none⟩ = some (.slice (some ⟨gr2, 0, none⟩) N N)) (first | exact ⟨d0, d1⟩ | (constructor <;> simp [World.cell?_setCell_far, d0, d1, hne'])) (fail)
        have HW7 := hide (HD2.out.keep ((Below.refl _ _).drew))
        have HB7 := hide ((below_set (below_set HB6.out HM6.out.base (.int .i64 (N : Nat)) (i := 4 + a * 2)) HM6.out.base (.slice (some ⟨gr2, 0, none⟩) N N) (i := 4 + a * 2 + 1)).drew)
        clear HD2 HB6 HM6 HO6 k2 k3 f2 f3 d0 d1
        generalize ((w6.setCell ⟨W, 4 + a * 2, none⟩ (.int .i64 (N : Nat))).setCell ⟨W, 4 + a * 2 + 1, none⟩ (.slice (some ⟨gr2, 0, none⟩) N N)).drew = w7 at *
        go_wp2_with fail
        refine (num_nil w7).mono ?_
        rintro e w8 ⟨rfl, rfl⟩
        have HD := hide (show Done w0 W (.returned (.bool true)) w7 from ⟨rfl, _, HW7.out, HB7.out⟩)
        go_wp2_with fail
        go_ret
        exact HD.out

    · have hin' : n < 0 ∨ N ≤ n := by omega
      have HIN := hide hin'
      clear hin hin'
      go_wp2_with fail
      refine (add_out w3 HRA.out.set n HIN.out (E 0) ((HEW.out.below HRA.out.rm.bel (Nat.le_refl _) (ids_lt hg)).cell 0 (by decide))).mono ?_
      rintro e w4 ⟨rfl, q, rfl⟩
      have HM := hide (Wm.same ((HRA.out.keep (below_drewN (Below.refl _ _) q)).rm.wd) hal HST.out)
      dsimp only at HM
      have HB4 := hide ((HRA.out.keep (below_drewN (Below.refl _ _) q)).rm.bel)
      have H0 := hide ((HRA.out.keep (below_drewN (Below.refl _ _) q)).ob)
      have H8 := hide ((HRA.out.keep (below_drewN (Below.refl _ _) q)).bx)

      clear HRA b0 b1 c0 c1 c2 c3 c4 c5 c6
      generalize w3.drewN q = w4 at *
      obtain ⟨b0, b1⟩ := cells2 H8.out
      obtain ⟨c0, c1, c2, c3, c4, c5, c6⟩ := cells7 H0.out
      have HPU := hide (ref_put_out w4 HM.out.owna n HIN.out true)
      dsimp only at HPU
      go_wp2_with fail
      refine HPU.out.mono ?_
      rintro e w5 ⟨rfl, hb5⟩
      have HM5 := hide (HM.out.keep hb5)
      have HB5 := hide (HB4.out.trans (hb5.mono HM.out.size))
      have HO5 := hide (show ROwn w5 gr1 N (m1) from HM.out.owna.keep hb5)
      have hbx := (Below.refl w5.heap.size w5).alloc (Nat.le_refl _) (refBox gr1 N)
      have HM6 := hide (HM5.out.keep hbx)
      have HB6 := hide (HB5.out.trans (hbx.mono HM5.out.size))
      have HO6 := hide (HO5.out.keep hbx)
      have hT : (w5.alloc (refBox gr1 N)).heap[w5.heap.size]? = some (refBox gr1 N) := heap_new rfl _
      obtain ⟨d0, d1⟩ := cells2 hT
      have hne := (World.new_ne w5 _ HM5.out.cell.1)
      dsimp only at hne
      have hne' : W ≠ w5.heap.size := fun e => hne e.symm
      have HD2 := hide (HM6.out.store HO6.out)
      dsimp only at HD2
      clear hb5 hbx hT HM HB4 H8 H0 b0 b1 c0 c1 c2 c3 c4 c5 c6 HM5 HB5 HO5
      go_upto_region 14 with (fail)
      generalize w5.alloc (.cells #[.int .i64 (N : Nat), .slice (some ⟨gr1, 0, none⟩) N N] 54) = w6 at *
      obtain ⟨k2, k3, f2, f3⟩ := HM6.out.cell
      dsimp only at k2 k3
      go_region_held_law (fun w' => w'.cell? ⟨w5.heap.size, 0, none⟩ = some (.int .i64 (N : Nat)) ∧ w'.cell? ⟨w5.heap.size, 1, none⟩ = some (.slice (some ⟨gr1, 0, none⟩) N N)) (first | exact ⟨d0, d1⟩ | (constructor <;> simp [World.cell?_setCell_far, d0, d1, hne'])) (fail)
      have HW7 := hide (HD2.out.keep ((Below.refl _ _).drew))
      have HB7 := hide ((below_set (below_set HB6.out HM6.out.base (.int .i64 (N : Nat)) (i := 4 + a * 2)) HM6.out.base (.slice (some ⟨gr1, 0, none⟩) N N) (i := 4 + a * 2 + 1)).drew)
      clear HD2 HB6 HM6 HO6 k2 k3 f2 f3 d0 d1
      generalize ((w6.setCell ⟨W, 4 + a * 2, none⟩ (.int .i64 (N : Nat))).setCell ⟨W, 4 + a * 2 + 1, none⟩ (.slice (some ⟨gr1, 0, none⟩) N N)).drew = w7 at *
      go_wp2_with fail
      refine (num_range w7 E (HEW.out.below HB7.out (Nat.le_refl _) (ids_lt hg))).mono ?_
      rintro e w8 ⟨rfl, rfl⟩
      have HD := hide (show Done w0 W (.returned (.bool true)) w7 from ⟨rfl, _, HW7.out, HB7.out⟩)
      go_wp2_with fail
      go_ret
      exact HD.out

set_option maxRecDepth 100000 in
set_option maxHeartbeats 1000000 in
theorem asks_remove (w0 w : World) (E : Nat → Addr) (hE : Errs w0 E allErrs) (hT : DeBr w0) (hg : 25 ≤ w0.heap.size) (hb : Below w0.heap.size w0 w) {W : Nat} {st : Nat → Option SlotR} (hW : Wd w w0.heap.size W st) (s t dst n : Int) (lst bv : Value) :
    Calls Tryd.prog 74 #[.pointer (some ⟨W, 0, none⟩), OpV 5 s t dst n lst bv] w fun e w' => Done w0 W e w' := by
  have HEW := hide hE
  have HTW := hide hT
  have HB0 := hide hb
  have HW := hide hW
  have hz := hW.size
  clear hE hT hb hW
  go_enter Tryd.func74, Tryd.ntmps74
  go_upto_region 1 with (fail)
  have hbx := (Below.refl w.heap.size w).alloc (Nat.le_refl _) (opBox 5 s t dst n lst bv)
  have hbox : (w.alloc (opBox 5 s t dst n lst bv)).heap[w.heap.size]? = some (opBox 5 s t dst n lst bv) := heap_new rfl _
  have HW1 := hide (HW.out.keep hbx)
  have HB1 := hide (HB0.out.trans (hbx.mono hz))
  obtain ⟨c0, c1, c2, c3, c4, c5, c6⟩ := cells7 hbox
  have HBOX := hide hbox
  clear hbx hbox HW HB0
  generalize w.alloc (opBox 5 s t dst n lst bv) = w1 at *
  obtain ⟨a, ha⟩ : ∃ a, (s % 4).toNat = a := ⟨_, rfl⟩
  obtain ⟨b, hb'⟩ : ∃ b, (t % 4).toNat = b := ⟨_, rfl⟩
  have HSA := hide (fun q => slot_any (w1.drewN q) s)
  have HSB := hide (fun q => slot_any (w1.drewN q) t)
  rw [ha] at HSA
  rw [hb'] at HSB
  have hal : a < 4 := by omega
  have hbl : b < 4 := by omega
  have hai : (a : Int) < 4 := by omega
  have hbi : (b : Int) < 4 := by omega
  clear ha hb'
  go_quiet (first | (go_at_call 88; with_reducible exact Calls.quiet_of_same ((HSA.out _).mono (fun _ _ h => ⟨h.1, h.2.symm⟩))) | (go_at_call 88; with_reducible exact Calls.quiet_of_same ((HSB.out _).mono (fun _ _ h => ⟨h.1, h.2.symm⟩))))
  have HW2 := hide (HW1.out.keep (below_drewN (Below.refl _ _) nq))
  have HB2 := hide (below_drewN HB1.out nq)
  have HBX2 := hide (show (w1.drewN nq).heap[w.heap.size]? = some (opBox 5 s t dst n lst bv) from HBOX.out)
  clear HW1 HB1 HBOX HSA HSB c0 c1 c2 c3 c4 c5 c6
  generalize w1.drewN nq = w2 at *
  obtain ⟨c0, c1, c2, c3, c4, c5, c6⟩ := cells7 HBX2.out
  cases hst : st a with
  | none =>
    obtain ⟨k1, k4⟩ := Rm.void ⟨HW2.out, HB2.out⟩ hal hst
    have HD := hide (show Done w0 W (.returned (.bool true)) w2 from ⟨rfl, st, HW2.out, HB2.out⟩)
    clear hst
    go_wp2_with fail
    go_ret
    exact HD.out
  | some r =>
    have HST := hide hst
    have HSET := hide (HW2.out.sets a r hal hst)
    have hsm := HSET.out.1.small
    clear hst
    have hSz := HW2.out.size
    obtain ⟨k1, k2, k3, k4⟩ := Rm.full ⟨HW2.out, HB2.out⟩ hal HST.out
    have hbx8 := (Below.refl w2.heap.size w2).alloc (Nat.le_refl _) (refBox r.gr r.n)
    have HRA := hide (show Ra2 w0 W st a r w.heap.size w2.heap.size (opBox 5 s t dst n lst bv) (w2.alloc (refBox r.gr r.n)).drew from
      ⟨(Rm.keep ⟨HW2.out, HB2.out⟩ hbx8).keep ((Below.refl _ _).drew), HST.out, hal, (hbx8.block _ (heap_lt HBX2.out)).trans HBX2.out, heap_new rfl _, debr_below HTW.out ((HB2.out.trans (hbx8.mono hSz)).drew) (by omega), by show 15 < (w2.alloc _).heap.size; rw [World.size_alloc]; omega⟩)
    go_upto_region 4 with (fail)
    have n2 := World.new_ne w2 _ k1
    dsimp only at n2
    go_region_held_law (fun w' => w'.cell? ⟨W, a, none⟩ = some (.pointer (some ⟨r.S, 0, none⟩)) ∧ w'.cell? ⟨W, 4 + a * 2, none⟩ = some (.int .i64 (r.n : Nat)) ∧ w'.cell? ⟨W, 4 + a * 2 + 1, none⟩ = some (.slice (some ⟨r.gr, 0, none⟩) r.n r.n)) (first | exact ⟨k1, k2, k3⟩ | (refine ⟨?_, ?_, ?_⟩ <;> simp [World.cell?_alloc_some, World.cell?_setCell_far, k1, k2, k3, n2])) (fail)
    clear hbx8 k1 k2 k3 k4 HSET c0 c1 c2 c3 c4 c5 c6 n2
    clear HW2 HB2 HBX2
    obtain ⟨T8, hT8⟩ : ∃ T, w2.heap.size = T := ⟨_, rfl⟩
    rw [hT8] at HRA
    rw [show (⟨w2.heap.size, 0, none⟩ : Addr) = ⟨T8, 0, none⟩ from by rw [hT8]]
    clear hT8
    generalize (w2.alloc (.cells #[.int .i64 (r.n : Nat), .slice (some ⟨r.gr, 0, none⟩) r.n r.n] 54)).drew = w3 at *
    obtain ⟨S1, g1, cap1, N, gr1, m1⟩ := r
    obtain ⟨b0, b1⟩ := cells2 HRA.out.bx
    obtain ⟨c0, c1, c2, c3, c4, c5, c6⟩ := cells7 HRA.out.ob
    have hsm : N ≤ 1048576 := hsm
    by_cases hin : 0 ≤ n ∧ n < N
    · obtain ⟨i, rfl⟩ : ∃ i : Nat, n = (i : Int) := ⟨n.toNat, by omega⟩
      have hi : i < N := by omega
      clear hin
      cases hm : m1 i with
      | true =>
        have HMI := hide hm
        clear hm
        go_wp2_with fail
        refine (rem_new w3 HRA.out.set i hi HMI.out).mono ?_
        rintro e w4 ⟨rfl, hs4, hf4⟩
        have hkt := fun ty => keepTy_set HRA.out.set hf4 ty
        have HM := hide (Wm.foot HRA.out.rm.wd hal HST.out (m' := put m1 i false) hs4 hf4)
        have HB4 := hide (HRA.out.rm.bel.trans (hf4.below (B := w0.heap.size) (fun k hk => by rcases hk with rfl | rfl; exact HM.out.gea.1; exact HM.out.gea.2) HRA.out.rm.wd.size))
        have H0 := hide (hkt 77 (by decide) (by decide) _ _ _ HRA.out.ob)
        have H8 := hide (hkt 54 (by decide) (by decide) _ _ _ HRA.out.bx)
        clear hs4 hf4 hkt HRA b0 b1 c0 c1 c2 c3 c4 c5 c6
        obtain ⟨b0, b1⟩ := cells2 H8.out
        obtain ⟨c0, c1, c2, c3, c4, c5, c6⟩ := cells7 H0.out
        have HPU := hide (ref_put_in w4 HM.out.owna i hi false hsm)
        dsimp only at HPU
        rw [HMI.out] at HPU
        go_wp2_with fail
        refine HPU.out.mono ?_
        rintro e w5 ⟨gr2, rfl, _, ho5, hb5⟩
        have HM5 := hide (HM.out.keep hb5)
        have HB5 := hide (HB4.out.trans (hb5.mono HM.out.size))
        have HO5 := hide (show ROwn w5 gr2 N (put m1 i false) from ho5)
        have hbx := (Below.refl w5.heap.size w5).alloc (Nat.le_refl _) (refBox gr2 N)
        have HM6 := hide (HM5.out.keep hbx)
        have HB6 := hide (HB5.out.trans (hbx.mono HM5.out.size))
        have HO6 := hide (HO5.out.keep hbx)
        have hT : (w5.alloc (refBox gr2 N)).heap[w5.heap.size]? = some (refBox gr2 N) := heap_new rfl _
        obtain ⟨d0, d1⟩ := cells2 hT
        have hne := (World.new_ne w5 _ HM5.out.cell.1)
        dsimp only at hne
        have hne' : W ≠ w5.heap.size := fun e => hne e.symm
        have HD2 := hide (HM6.out.store HO6.out)
        dsimp only at HD2
        clear hb5 hbx hT HM HB4 H8 H0 b0 b1 c0 c1 c2 c3 c4 c5 c6 HM5 HB5 HO5
        go_upto_region 14 with (fail)
        generalize w5.alloc (.cells #[.int .i64 (N : Nat), .slice (some ⟨gr2, 0, none⟩) N N] 54) = w6 at *
        obtain ⟨k2, k3, f2, f3⟩ := HM6.out.cell
        dsimp only at k2 k3
        go_region_held_law (fun w' => w'.cell? ⟨w5.heap.size, 0, none⟩ = some (.int .i64 (N : Nat)) ∧ w'.cell? ⟨w5.heap.size, 1, none⟩ = some (.slice (some ⟨gr2, 0, none⟩) N N)) (first | exact ⟨d0, d1⟩ | (constructor <;> simp [World.cell?_setCell_far, d0, d1, hne'])) (fail)
        have HW7 := hide (HD2.out.keep ((Below.refl _ _).drew))
        have HB7 := hide ((below_set (below_set HB6.out HM6.out.base (.int .i64 (N : Nat)) (i := 4 + a * 2)) HM6.out.base (.slice (some ⟨gr2, 0, none⟩) N N) (i := 4 + a * 2 + 1)).drew)
        clear HD2 HB6 HM6 HO6 k2 k3 f2 f3 d0 d1
        generalize ((w6.setCell ⟨W, 4 + a * 2, none⟩ (.int .i64 (N : Nat))).setCell ⟨W, 4 + a * 2 + 1, none⟩ (.slice (some ⟨gr2, 0, none⟩) N N)).drew = w7 at *
        go_wp2_with fail
        refine (num_nil w7).mono ?_
        rintro e w8 ⟨rfl, rfl⟩
        have HD := hide (show Done w0 W (.returned (.bool true)) w7 from ⟨rfl, _, HW7.out, HB7.out⟩)
        go_wp2_with fail
        go_ret
        exact HD.out

      | false =>
        have HMI := hide hm
        have HPT := hide (show put m1 i false = m1 from by funext x; unfold put; by_cases e : x = i; rw [if_pos e, e, HMI.out]; rw [if_neg e])
        clear hm
        go_wp2_with fail
        refine (rem_old w3 HRA.out.set i hi HMI.out).mono ?_
        rintro e w4 ⟨rfl, rfl⟩
        have HM := hide (Wm.same ((HRA.out.keep (Below.refl _ _)).rm.wd) hal HST.out)
        dsimp only at HM
        have HB4 := hide ((HRA.out.keep (Below.refl _ _)).rm.bel)
        have H0 := hide ((HRA.out.keep (Below.refl _ _)).ob)
        have H8 := hide ((HRA.out.keep (Below.refl _ _)).bx)

        clear HRA b0 b1 c0 c1 c2 c3 c4 c5 c6
        obtain ⟨b0, b1⟩ := cells2 H8.out
        obtain ⟨c0, c1, c2, c3, c4, c5, c6⟩ := cells7 H0.out
        have HPU := hide (ref_put_in w3 HM.out.owna i hi false hsm)
        dsimp only at HPU
        rw [HMI.out] at HPU
        go_wp2_with fail
        refine HPU.out.mono ?_
        rintro e w5 ⟨gr2, rfl, _, ho5, hb5⟩
        have HM5 := hide (HM.out.keep hb5)
        have HB5 := hide (HB4.out.trans (hb5.mono HM.out.size))
        have HO5 := hide (show ROwn w5 gr2 N (m1) from (by rw [HPT.out] at ho5; exact ho5))
        have hbx := (Below.refl w5.heap.size w5).alloc (Nat.le_refl _) (refBox gr2 N)
        have HM6 := hide (HM5.out.keep hbx)
        have HB6 := hide (HB5.out.trans (hbx.mono HM5.out.size))
        have HO6 := hide (HO5.out.keep hbx)
        have hT : (w5.alloc (refBox gr2 N)).heap[w5.heap.size]? = some (refBox gr2 N) := heap_new rfl _
        obtain ⟨d0, d1⟩ := cells2 hT
        have hne := (World.new_ne w5 _ HM5.out.cell.1)
        dsimp only at hne
        have hne' : W ≠ w5.heap.size := fun e => hne e.symm
        have HD2 := hide (HM6.out.store HO6.out)
        dsimp only at HD2
        clear hb5 hbx hT HM HB4 H8 H0 b0 b1 c0 c1 c2 c3 c4 c5 c6 HM5 HB5 HO5
        go_upto_region 14 with (fail)
        generalize w5.alloc (.cells #[.int .i64 (N : Nat), .slice (some ⟨gr2, 0, none⟩) N N] 54) = w6 at *
        obtain ⟨k2, k3, f2, f3⟩ := HM6.out.cell
        dsimp only at k2 k3
        go_region_held_law (fun w' => w'.cell? ⟨w5.heap.size, 0, none⟩ = some (.int .i64 (N : Nat)) ∧ w'.cell? ⟨w5.heap.size, 1, none⟩ = some (.slice (some ⟨gr2, 0, none⟩) N N)) (first | exact ⟨d0, d1⟩ | (constructor <;> simp [World.cell?_setCell_far, d0, d1, hne'])) (fail)
        have HW7 := hide (HD2.out.keep ((Below.refl _ _).drew))
        have HB7 := hide ((below_set (below_set HB6.out HM6.out.base (.int .i64 (N : Nat)) (i := 4 + a * 2)) HM6.out.base (.slice (some ⟨gr2, 0, none⟩) N N) (i := 4 + a * 2 + 1)).drew)
        clear HD2 HB6 HM6 HO6 k2 k3 f2 f3 d0 d1
        generalize ((w6.setCell ⟨W, 4 + a * 2, none⟩ (.int .i64 (N : Nat))).setCell ⟨W, 4 + a * 2 + 1, none⟩ (.slice (some ⟨gr2, 0, none⟩) N N)).drew = w7 at *
        go_wp2_with fail
        refine (num_nil w7).mono ?_
        rintro e w8 ⟨rfl, rfl⟩
        have HD := hide (show Done w0 W (.returned (.bool true)) w7 from ⟨rfl, _, HW7.out, HB7.out⟩)
        go_wp2_with fail
        go_ret
        exact HD.out

    · have hin' : n < 0 ∨ N ≤ n := by omega
      have HIN := hide hin'
      clear hin hin'
      go_wp2_with fail
      refine (rem_out w3 HRA.out.set n HIN.out (E 0) ((HEW.out.below HRA.out.rm.bel (Nat.le_refl _) (ids_lt hg)).cell 0 (by decide))).mono ?_
      rintro e w4 ⟨rfl, q, rfl⟩
      have HM := hide (Wm.same ((HRA.out.keep (below_drewN (Below.refl _ _) q)).rm.wd) hal HST.out)
      dsimp only at HM
      have HB4 := hide ((HRA.out.keep (below_drewN (Below.refl _ _) q)).rm.bel)
      have H0 := hide ((HRA.out.keep (below_drewN (Below.refl _ _) q)).ob)
      have H8 := hide ((HRA.out.keep (below_drewN (Below.refl _ _) q)).bx)

      clear HRA b0 b1 c0 c1 c2 c3 c4 c5 c6
      generalize w3.drewN q = w4 at *
      obtain ⟨b0, b1⟩ := cells2 H8.out
      obtain ⟨c0, c1, c2, c3, c4, c5, c6⟩ := cells7 H0.out
      have HPU := hide (ref_put_out w4 HM.out.owna n HIN.out false)
      dsimp only at HPU
      go_wp2_with fail
      refine HPU.out.mono ?_
      rintro e w5 ⟨rfl, hb5⟩
      have HM5 := hide (HM.out.keep hb5)
      have HB5 := hide (HB4.out.trans (hb5.mono HM.out.size))
      have HO5 := hide (show ROwn w5 gr1 N (m1) from HM.out.owna.keep hb5)
      have hbx := (Below.refl w5.heap.size w5).alloc (Nat.le_refl _) (refBox gr1 N)
      have HM6 := hide (HM5.out.keep hbx)
      have HB6 := hide (HB5.out.trans (hbx.mono HM5.out.size))
      have HO6 := hide (HO5.out.keep hbx)
      have hT : (w5.alloc (refBox gr1 N)).heap[w5.heap.size]? = some (refBox gr1 N) := heap_new rfl _
      obtain ⟨d0, d1⟩ := cells2 hT
      have hne := (World.new_ne w5 _ HM5.out.cell.1)
      dsimp only at hne
      have hne' : W ≠ w5.heap.size := fun e => hne e.symm
      have HD2 := hide (HM6.out.store HO6.out)
      dsimp only at HD2
      clear hb5 hbx hT HM HB4 H8 H0 b0 b1 c0 c1 c2 c3 c4 c5 c6 HM5 HB5 HO5
      go_upto_region 14 with (fail)
      generalize w5.alloc (.cells #[.int .i64 (N : Nat), .slice (some ⟨gr1, 0, none⟩) N N] 54) = w6 at *
      obtain ⟨k2, k3, f2, f3⟩ := HM6.out.cell
      dsimp only at k2 k3
      go_region_held_law (fun w' => w'.cell? ⟨w5.heap.size, 0, none⟩ = some (.int .i64 (N : Nat)) ∧ w'.cell? ⟨w5.heap.size, 1, none⟩ = some (.slice (some ⟨gr1, 0, none⟩) N N)) (first | exact ⟨d0, d1⟩ | (constructor <;> simp [World.cell?_setCell_far, d0, d1, hne'])) (fail)
      have HW7 := hide (HD2.out.keep ((Below.refl _ _).drew))
      have HB7 := hide ((below_set (below_set HB6.out HM6.out.base (.int .i64 (N : Nat)) (i := 4 + a * 2)) HM6.out.base (.slice (some ⟨gr1, 0, none⟩) N N) (i := 4 + a * 2 + 1)).drew)
      clear HD2 HB6 HM6 HO6 k2 k3 f2 f3 d0 d1
      generalize ((w6.setCell ⟨W, 4 + a * 2, none⟩ (.int .i64 (N : Nat))).setCell ⟨W, 4 + a * 2 + 1, none⟩ (.slice (some ⟨gr1, 0, none⟩) N N)).drew = w7 at *
      go_wp2_with fail
      refine (num_range w7 E (HEW.out.below HB7.out (Nat.le_refl _) (ids_lt hg))).mono ?_
      rintro e w8 ⟨rfl, rfl⟩
      have HD := hide (show Done w0 W (.returned (.bool true)) w7 from ⟨rfl, _, HW7.out, HB7.out⟩)
      go_wp2_with fail
      go_ret
      exact HD.out

end Go.Proofs.YtmkbbekeimnajaaDoor

/-! Gz: goes (99): does All give just these, up to the stop? -/
namespace Go.Proofs.YtmkbbekeimnajaaDoor
open Go.RowKit Ds
attribute [local go_sem] Oper.semAt_some
theorem cell_same1 {X : World} {b : Nat} {Sk : Nat → Prop} (v : Value) (h : ∀ k, Sk k → k ≠ b) : Same Sk X (X.setCell ⟨b, 0, none⟩ v) :=
  ⟨by rw [World.size_setCell]; exact Nat.le_refl _, fun _ _ hk ho => heap_else ho (h _ hk) v⟩
theorem func_nil1 (v : Value) : ∀ w : World, (binOp .eql 31 (.func (.func 43) #[] #[v]) .nilFunc).run Tryd.prog w = .ok (.bool false) w := by
  intro w
  kernel_rfl
set_option maxRecDepth 100000 in
set_option maxHeartbeats 4000000 in
theorem goes_any (w : World) (T : DeBr w) (hg : 15 < w.heap.size) {S g cap N : Nat} {m : Nat → Bool} (h : SetAt w S g cap N m) (a4 : Option Addr) (c k4 : Nat) (hc : cnt m N = c) (hi : Ints w (.slice a4 c k4) (mI m N)) (stop : Int) :
    Calls Tryd.prog 99 #[.pointer (some ⟨S, 0, none⟩), .slice a4 c k4, .int .i64 stop] w fun e w' => e = .returned (.bool true) ∧ Below w.heap.size w w' := by
  have HT := hide T
  have HS := hide h
  have HI := hide hi
  have HCC := hide hc
  have hS := heap_lt h.hd
  have hG : g < w.heap.size := by obtain ⟨cur, h1, _⟩ := h.ws; exact heap_lt h1
  have hcN := cnt_le m N
  rw [hc] at hcN
  have hsm := h.small
  have hml : (mI m N).length = c := by rw [mI_len, hc]
  have HML := hide hml
  clear T h hi hc hml
  refine (callsIn_wide (n := 9)).1 ?_
  refine callsIn_of_wp_marks Tryd.func99 rfl trivial ?_ rfl
  simp only [Tryd.ntmps99, List.size_toArray, List.length_cons, List.length_nil, Nat.reduceAdd, Nat.reduceSub, Array.replicate_succ, Array.replicate_zero, List.push_toArray, List.append_toArray, List.nil_append, List.cons_append]
  refine wpIn_wide.2 ?_
  go_upto_region 2 with (fail)
  obtain ⟨w1, hw1⟩ : ∃ w1, (((w.alloc (.cells #[.slice a4 c k4] 22)).alloc (.cells #[.int .i64 stop] 3)).alloc (.cells #[.bool false] 4)).alloc (.cells #[.int .i64 0] 3) = w1 := ⟨_, rfl⟩
  have b4 : w1.heap[w.heap.size]? = some (.cells #[.slice a4 c k4] 22 (0, 0)) := by rw [← hw1]; exact heap_old (heap_old (heap_old (heap_new rfl _) _) _) _
  have b5 : w1.heap[w.heap.size + 1]? = some (.cells #[.int .i64 stop] 3 (0, 0)) := by rw [← hw1]; exact heap_old (heap_old (heap_new (by rw [World.size_alloc]) _) _) _
  have b6 : w1.heap[w.heap.size + 2]? = some (.cells #[.bool false] 4 (0, 0)) := by rw [← hw1]; exact heap_old (heap_new (by rw [World.size_alloc, World.size_alloc]) _) _
  have b7 : w1.heap[w.heap.size + 3]? = some (.cells #[.int .i64 0] 3 (0, 0)) := by rw [← hw1]; exact heap_new (by rw [World.size_alloc, World.size_alloc, World.size_alloc]) _
  have hb1 : Below w.heap.size w w1 := by rw [← hw1]; exact ((((Below.refl w.heap.size w).alloc (Nat.le_refl _) _).alloc (by simp) _).alloc (by simp; omega) _).alloc (by simp; omega) _
  have z1 : w1.heap.size = w.heap.size + 4 := by rw [← hw1]; simp only [World.size_alloc]
  rw [hw1]
  clear hw1
  have e6 : w.heap.size + 1 + 1 = w.heap.size + 2 := rfl
  have e7 : w.heap.size + 2 + 1 = w.heap.size + 3 := rfl
  rw [e6, e7]
  obtain ⟨p5, hp5⟩ : ∃ p, w.heap.size + 1 = p := ⟨_, rfl⟩
  obtain ⟨p6, hp6⟩ : ∃ p, w.heap.size + 2 = p := ⟨_, rfl⟩
  obtain ⟨p7, hp7⟩ : ∃ p, w.heap.size + 3 = p := ⟨_, rfl⟩
  rw [hp5] at b5 ⊢
  rw [hp6] at b6 ⊢
  rw [hp7] at b7 ⊢
  have l5 : w.heap.size < p5 := by omega
  have l6 : p5 < p6 := by omega
  have l7 : p6 < p7 := by omega
  have l8 : p7 < w1.heap.size := by omega
  have HB1 := hide hb1
  have HB4 := hide b4
  have HB5 := hide b5
  have HB6 := hide b6
  have HB7 := hide b7
  clear b4 b5 b6 b7 z1 e6 e7 hp5 hp6 hp7
  have HT1 := hide (debr_below HT.out hb1 hg)
  have HI1 := hide (ints_keep HI.out hb1)
  have HS1 := hide (HS.out.keep hb1)
  clear hb1
  have zz := HB1.out.size
  go_wp2_with fail
  refine (all_any w1 HS1.out).mono ?_
  rintro e w2 ⟨cc, A, g2, cap2, rfl, hcc, hA, hg22, hcell, hsA, hb2⟩
  have HB2 := hide (HB1.out.trans (hb2.mono zz))
  have HT2 := hide (debr_below HT1.out hb2 (by omega))
  have HS2 := hide (HS1.out.keep hb2)
  have HI2 := hide (ints_keep HI1.out hb2)
  have C4 := hide ((hb2.block _ (heap_lt HB4.out)).trans HB4.out)
  have C5 := hide ((hb2.block _ (heap_lt HB5.out)).trans HB5.out)
  have C6 := hide ((hb2.block _ (heap_lt HB6.out)).trans HB6.out)
  have C7 := hide ((hb2.block _ (heap_lt HB7.out)).trans HB7.out)
  have HCL := hide hcell
  have HSA := hide hsA
  have z2 := HB2.out.size
  have z12 := hb2.size
  have hA2 := heap_lt hsA.hd
  have hc2 := heap_lt hcell
  have hg23 : g2 < w2.heap.size := by obtain ⟨cur, h, _⟩ := hsA.ws; exact heap_lt h
  clear hb2 hcell hsA HB4 HB5 HB6 HB7 HS1 HI1 HT1 HB1
  have e1 : S ≠ p7 := by omega
  have e2 : S ≠ p6 := by omega
  have e3 : g ≠ p7 := by omega
  have e4 : g ≠ p6 := by omega
  have e5 : p6 ≠ p7 := by omega
  have HSIT := hide (show Sit w w2 w2 S g cap N p7 p6 0 from ⟨HB2.out, Nat.le_refl _, fun _ _ _ _ h _ _ _ _ => h, ⟨_, HS2.out⟩, C7.out, C6.out⟩)
  have hnf := func_nil1 (.pointer (some ⟨cc, 0, none⟩))
  go_upto_region 4 with (fail)
  clear hnf
  have HXX := hide (show ∀ (X : World) (k : Nat), Sit w w2 X S g cap N p7 p6 k → X.cell? ⟨w.heap.size, 0, none⟩ = some (.slice a4 c k4) ∧ X.cell? ⟨p5, 0, none⟩ = some (.int .i64 stop) ∧ X.cell? ⟨p7, 0, none⟩ = some (.int .i64 (k : Nat)) ∧ X.frozen? ⟨p7, 0, none⟩ = false ∧ X.frozen? ⟨p6, 0, none⟩ = false ∧ X.cell? ⟨p6, 0, none⟩ = some (.bool false) ∧ Ints X (.slice a4 c k4) (mI m N) from
    fun X k h => ⟨cell_of_one (h.rest _ _ _ _ C4.out (by omega) (by omega) (by omega) (by omega)), cell_of_one (h.rest _ _ _ _ C5.out (by omega) (by omega) (by omega) (by omega)), cell_of_one h.idx, free_of_one h.idx, free_of_one h.res, cell_of_one h.res, ints_keep HI.out h.below⟩)
  have HSK : Hid (∀ k, (k = 15 ∨ k = cc ∨ k = A ∨ k = g2) → k ≠ p7 ∧ k < w2.heap.size ∧ k ≠ p6) := hide (by
    intro k hk
    rcases hk with rfl | rfl | rfl | rfl <;> exact ⟨by omega, by omega, by omega⟩)
  have HTE := hide (all_tells (fun k => k = 15 ∨ k = cc ∨ k = A ∨ k = g2) 8 cc A g2 cap2 N m w2 HSA.out HT2.out HCL.out (.inl rfl) (.inr (.inl rfl)) (.inr (.inr (.inl rfl))) (.inr (.inr (.inr rfl))))
  have hwW : w.heap.size ≤ w2.heap.size := z2
  have hw7 : w.heap.size ≤ p7 := by omega
  have hw6 : w.heap.size ≤ p6 := by omega
  refine (wpIn_wide (n := 9)).1 ?_
  refine range_fr (α := Nat) (fr := ?fr) rfl (by omega) (gf := 43) (lb := #[.pointer (some ⟨cc, 0, none⟩)]) rfl trivial (enters_of Tryd.func43 (by kernel_rfl) rfl) (encs := itEnc) (Ok := itAt (Ds.mem m N)) (Sa := fun xs => xs = Ds.mem m N) (Sp := fun pre => ∃ k, k < cnt m N ∧ pre = (Ds.mem m N).take (k + 1)) (S := fun k => k = 15 ∨ k = cc ∨ k = A ∨ k = g2) HTE.out
    (fun k hk => (HSK.out k hk).2.1) (fun _ => rfl)
    (fun pre X => Sit w w2 X S g cap N p7 p6 pre.length)
    (fun co _ X => co = .ret ∧ X.heap[p6]? = some (.cells #[.bool true] 4 (0, 0)) ∧ Below w.heap.size w X)
    (fun pre x X => Sit w w2 X S g cap N p7 p6 pre.length ∧ (Ds.mem m N)[pre.length]? = some x)
    ?hI ?hIx ?hT HSIT.out ?assign ?body ?done ?stop
  case hI =>
    rintro pre A' C row h hgr hr
    exact h.grown hwW hgr hr
  case hIx =>
    rintro co pre A' C row ⟨h1, h2, h3⟩ hgr hr
    exact ⟨h1, keepC_grown hgr (fun r e => (hr r e).2) _ _ _ _ h2, h3.trans ((Below.refl _ _).grown hgr h3.size (fun r e => Nat.le_trans hwW (hr r e).1))⟩
  case hT =>
    rintro ⟨pre, x⟩ A' C row ⟨h, h1⟩ hgr hr
    exact ⟨h.grown hwW hgr hr, h1⟩
  case stop =>
    rintro D co pre X hD _ ⟨rfl, h2, h3⟩ hd
    have HM := hide (show Marks X w.heap.size [D] from ⟨by simp, fun D' hD' => by
      rw [List.mem_singleton] at hD'
      subst hD'
      exact ⟨Nat.le_trans hwW hD, hd⟩⟩)
    have HR := hide h2
    have HBX := hide h3
    clear h2 h3 hd
    refine wpIn_wide.2 ?_
    go_wp2_with fail
    refine leaves_marks [D] _ (B := w.heap.size) HM.out HBX.out.size (fun W' hp => ?_)
    have hR' := hp.2 _ _ _ _ HR.out
    have hc8 : W'.cell? ⟨p6, 0, none⟩ = some (.bool true) := by rw [cell_at hR' 0]; rfl
    refine (show LeavesIn _ _ _ _ _ _ [] .returning W' from ⟨.bool true, ?_, rfl, HBX.out.trans hp.1⟩)
    simp [results, Tryd.f99, go_sem, hc8]
  case assign =>
    rintro l pre x A' C K' h hb hok hzA hK'
    have hK2 := hide (hK' C (KeepsFrom.refl _ _) (Same.refl _ _) ⟨h.later hb, hok⟩)
    clear hK' hok
    dsimp only [itEnc]
    gi_wp2_with fail
    exact hK2.out
  case body =>
    rintro l pre x X ⟨h, hx⟩
    obtain ⟨c4, c5, c7, f7, f6, c6, hiw⟩ := HXX.out X _ h
    have HSX := hide h
    have hlc : pre.length < c := by have h1 := get_lt' hx; have h2 := HCC.out; unfold cnt at h2; omega
    obtain ⟨ad4, rfl, hcw⟩ := ints_get hiw (i := pre.length) (x := (x : Int)) (by unfold mI; rw [List.getElem?_map, hx]; rfl)
    have hlen : (pre ++ [x]).length = pre.length + 1 := by simp
    have HLEN := hide hlen
    obtain ⟨at_, hat⟩ : ∃ at_, pre.length = at_ := ⟨_, rfl⟩
    rw [hat] at HSX hlc hcw c7 HLEN
    have hlci : (at_ : Int) < (c : Int) := by omega
    have hca : ¬ (c : Int) ≤ (at_ : Int) := by omega
    have hwa : IntKind.i64.wrap ((at_ : Int) + 1) = ((at_ + 1 : Nat) : Int) := by rw [IntKind.wrap_i64]; omega
    have HST := HSX.out.step (at_ + 1) e1 e3 e5 hw7
    have HS3 := hide (show Sit w w2 (X.setCell ⟨p7, 0, none⟩ (.int .i64 ((at_ + 1 : Nat) : Int))) S g cap N p7 p6 (pre ++ [x]).length from by rw [HLEN.out]; exact HST)
    have HS4 := hide HST
    have HKO := hide (KeepsOthers.setCell X ⟨p7, 0, none⟩ (.int .i64 ((at_ + 1 : Nat) : Int)))
    have HSM := hide (cell_same1 (X := X) (b := p7) (Sk := fun k => k = 15 ∨ k = cc ∨ k = A ∨ k = g2) (.int .i64 ((at_ + 1 : Nat) : Int)) (fun k hk => (HSK.out k hk).1))
    clear h hx hiw hlen hat HST
    by_cases hst : stop = ((at_ + 1 : Nat) : Int)
    · subst hst
      have HR := hide (heap_set (i := 0) HS4.out.res (.bool true))
      have HKR := hide (HKO.out.trans (KeepsOthers.setCell (X.setCell ⟨p7, 0, none⟩ (.int .i64 ((at_ + 1 : Nat) : Int))) ⟨p6, 0, none⟩ (.bool true)))
      have HBR := hide (HS4.out.below.setCell (p := ⟨p6, 0, none⟩) hw6 (.bool true))
      gi_wp2_with fail
      exact ⟨HKR.out.from _, rfl, HR.out, HBR.out⟩
    · have hs1 : (((at_ + 1 : Nat) : Int) == stop) = false := by simp; omega
      gi_wp2_with fail
      exact ⟨HKO.out.from _, HSM.out, HS3.out⟩
  case done =>
    rintro D xs X hD rfl h hd
    have zX := h.size
    have hmc : (Ds.mem m N).length = c := HCC.out
    rw [hmc] at h
    obtain ⟨c4, c5, c7, f7, f6, c6, _⟩ := HXX.out X _ h
    have HSX := hide h
    have HM := hide (show Marks X w.heap.size [D] from ⟨by simp, fun D' hD' => by
      rw [List.mem_singleton] at hD'
      subst hD'
      exact ⟨Nat.le_trans hwW hD, hd⟩⟩)
    clear h hd hmc
    go_wp2_with fail
    refine leaves_marks [D] _ (B := w.heap.size) ⟨HM.out.1, fun D' hD' => ⟨(HM.out.2 D' hD').1, (KeepsOthers.setCell X ⟨p6, 0, none⟩ (.bool true)).same D' _ (HM.out.2 D' hD').2 rfl⟩⟩ (by rw [World.size_setCell]; omega) (fun W' hp => ?_)
    have hR' := hp.2 _ _ _ _ (heap_set HSX.out.res (.bool true))
    have hc8 : W'.cell? ⟨p6, 0, none⟩ = some (.bool true) := by rw [cell_at hR' 0]; rfl
    have hbw := (HSX.out.below.setCell (p := ⟨p6, 0, none⟩) hw6 (.bool true)).trans hp.1
    refine (show LeavesIn _ _ _ _ _ _ [] .returning W' from ⟨.bool true, ?_, rfl, hbw⟩)
    simp [results, Tryd.f99, go_sem, hc8]
end Go.Proofs.YtmkbbekeimnajaaDoor
