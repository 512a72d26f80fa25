/- texts of this proof, one behind the other: Pa -/
import Derived.Test.YtmkbbekeimnajaaDoorMPlays0
import Derived.Test.YtmkbbekeimnajaaDoorMPlays1
import Derived.Test.YtmkbbekeimnajaaDoorMPlays2
import Derived.Test.YtmkbbekeimnajaaDoorMPlays3
import Derived.Test.YtmkbbekeimnajaaDoorMPlays4
import Derived.Test.YtmkbbekeimnajaaDoorMPlays5
import Derived.Test.YtmkbbekeimnajaaDoorMPlays6
import Derived.Test.YtmkbbekeimnajaaDoorMPlays7
import Derived.Test.YtmkbbekeimnajaaDoorMPlays8
import Derived.Test.YtmkbbekeimnajaaDoorMPlays9
import Derived.Test.YtmkbbekeimnajaaDoorMPlays10
import Derived.Test.YtmkbbekeimnajaaDoorMPlays11
import Derived.Test.YtmkbbekeimnajaaDoorMPlays12
import Derived.Test.YtmkbbekeimnajaaDoorMPlays13
import Derived.Test.YtmkbbekeimnajaaDoorMPlays14
import Derived.Test.YtmkbbekeimnajaaDoorMPlays15
import Derived.Test.YtmkbbekeimnajaaDoorMPlays16
import Derived.Test.YtmkbbekeimnajaaDoorMPlays17
import Derived.Test.YtmkbbekeimnajaaDoorMPlays18
import Derived.Test.YtmkbbekeimnajaaDoorMPlays19
/-! Pa: asks (74) -/
namespace Go.Proofs.YtmkbbekeimnajaaDoor
open Go.RowKit Ds
/-- what the asking calls read -/
structure Ra2 (w0 : World) (W : Nat) (st : Nat → Option SlotR) (a : Nat) (r : SlotR) (T0 T8 : Nat) (o : Obj) (wr : World) : Prop where
  rm : Rm w0 W st wr
  hst : st a = some r
  ha : a < 4
  ob : wr.heap[T0]? = some o
  bx : wr.heap[T8]? = some (refBox r.gr r.n)
  deb : DeBr wr
  sz : 15 < wr.heap.size
theorem Ra2.keep {w0 wr w' : World} {W : Nat} {st : Nat → Option SlotR} {a : Nat} {r : SlotR} {T0 T8 : Nat} {o : Obj} (h : Ra2 w0 W st a r T0 T8 o wr) (hb : Below wr.heap.size wr w') : Ra2 w0 W st a r T0 T8 o w' :=
  ⟨h.rm.keep hb, h.hst, h.ha, (hb.block _ (heap_lt h.ob)).trans h.ob, (hb.block _ (heap_lt h.bx)).trans h.bx, debr_below h.deb hb h.sz, Nat.lt_of_lt_of_le h.sz hb.size⟩
theorem Ra2.set {w0 wr : World} {W : Nat} {st : Nat → Option SlotR} {a : Nat} {r : SlotR} {T0 T8 : Nat} {o : Obj} (h : Ra2 w0 W st a r T0 T8 o wr) : SetAt wr r.S r.g r.cap r.n r.m := (h.rm.wd.sets a r h.ha h.hst).1
theorem Ra2.own {w0 wr : World} {W : Nat} {st : Nat → Option SlotR} {a : Nat} {r : SlotR} {T0 T8 : Nat} {o : Obj} (h : Ra2 w0 W st a r T0 T8 o wr) : ROwn wr r.gr r.n r.m := (h.rm.wd.sets a r h.ha h.hst).2.1
theorem Ra2.done {w0 wr : World} {W : Nat} {st : Nat → Option SlotR} {a : Nat} {r : SlotR} {T0 T8 : Nat} {o : Obj} (h : Ra2 w0 W st a r T0 T8 o wr) : Done w0 W (.returned (.bool true)) wr := ⟨rfl, st, h.rm.wd, h.rm.bel⟩
def hv (m : Nat → Bool) (i : Int) : Bool := decide (0 ≤ i) && m i.toNat
theorem has_val (w : World) {S g cap n : Nat} {m : Nat → Bool} (h : SetAt w S g cap n m) (i : Int) : Calls Tryd.prog 20 #[.pointer (some ⟨S, 0, none⟩), .int .i64 i] w fun e w' => e = .returned (.bool (hv m i)) ∧ w = w' := by
  by_cases h0 : 0 ≤ i ∧ i < n
  · obtain ⟨j, rfl⟩ := Int.eq_ofNat_of_zero_le h0.1
    have e : hv m (j : Int) = m j := by unfold hv; rw [decide_eq_true (by omega)]; rfl
    rw [e]
    exact has_in w h j (by omega)
  · have e : hv m i = false := by
      unfold hv
      by_cases h1 : 0 ≤ i
      · rw [h.off i.toNat (by omega), Bool.and_false]
      · rw [decide_eq_false h1]; rfl
    rw [e]
    exact has_out w h i (by omega)
theorem ref_has_val (w : World) {g n : Nat} {m : Nat → Bool} (h : ROwn w g n m) (hoff : ∀ i, n ≤ i → m i = false) (hn : n ≤ 1048576) (i : Int) : Calls Tryd.prog 94 #[RefV g n, .int .i64 i] w fun e w' => e = .returned (.bool (hv m i)) ∧ Below w.heap.size w w' := by
  by_cases h0 : 0 ≤ i ∧ i < n
  · obtain ⟨j, rfl⟩ := Int.eq_ofNat_of_zero_le h0.1
    have e : hv m (j : Int) = m j := by unfold hv; rw [decide_eq_true (by omega)]; rfl
    rw [e]
    exact ref_has_in w h j (by omega) hn
  · have e : hv m i = false := by
      unfold hv
      by_cases h1 : 0 ≤ i
      · rw [hoff i.toNat (by omega), Bool.and_false]
      · rw [decide_eq_false h1]; rfl
    rw [e]
    exact ref_has_out w h i (by omega) hn
theorem sel_form (m : Nat → Bool) (n : Nat) (k : Int) : ∃ (x : Int) (b : Bool), ∀ e, SelOut m n k e → e = .returned (.tuple #[.int .i64 x, .bool b]) := by
  unfold SelOut
  cases h : (if k < 0 then none else (Ds.mem m n)[k.toNat]?) with
  | none => exact ⟨0, false, fun e he => he⟩
  | some x => exact ⟨(x : Nat), true, fun e he => he⟩
theorem next_form (m : Nat → Bool) (n i : Nat) : ∃ (x : Int) (b : Bool), ∀ e, NextOut m n i e → e = .returned (.tuple #[.int .i64 x, .bool b]) := by
  unfold NextOut
  cases h : next m n i with
  | none => exact ⟨0, false, fun e he => he⟩
  | some x => exact ⟨(x : Nat), true, fun e he => he⟩
set_option maxRecDepth 100000 in
set_option maxHeartbeats 1000000 in
theorem asks_encode (w0 w : World) (E : Nat → Addr) (hE : Errs w0 E allErrs) (hT : DeBr w0) (hg : 25 ≤ w0.heap.size) (hb : Below w0.heap.size w0 w) {W : Nat} {st : Nat → Option SlotR} (hW : Wd w w0.heap.size W st) (s t dst n : Int) (lst bv : Value) :
    Calls Tryd.prog 74 #[.pointer (some ⟨W, 0, none⟩), OpV 20 s t dst n lst bv] w fun e w' => Done w0 W e w' := by
  have HEW := hide hE
  have HTW := hide hT
  have HB0 := hide hb
  have HW := hide hW
  have hz := hW.size
  clear hE hT hb hW
  go_enter Tryd.func74, Tryd.ntmps74
  go_upto_region 1 with (fail)
  have hbx := (Below.refl w.heap.size w).alloc (Nat.le_refl _) (opBox 20 s t dst n lst bv)
  have hbox : (w.alloc (opBox 20 s t dst n lst bv)).heap[w.heap.size]? = some (opBox 20 s t dst n lst bv) := heap_new rfl _
  have HW1 := hide (HW.out.keep hbx)
  have HB1 := hide (HB0.out.trans (hbx.mono hz))
  obtain ⟨c0, c1, c2, c3, c4, c5, c6⟩ := cells7 hbox
  have HBOX := hide hbox
  clear hbx hbox HW HB0
  generalize w.alloc (opBox 20 s t dst n lst bv) = w1 at *
  obtain ⟨a, ha⟩ : ∃ a, (s % 4).toNat = a := ⟨_, rfl⟩
  obtain ⟨b, hb'⟩ : ∃ b, (t % 4).toNat = b := ⟨_, rfl⟩
  have HSA := hide (fun q => slot_any (w1.drewN q) s)
  have HSB := hide (fun q => slot_any (w1.drewN q) t)
  rw [ha] at HSA
  rw [hb'] at HSB
  have hal : a < 4 := by omega
  have hbl : b < 4 := by omega
  have hai : (a : Int) < 4 := by omega
  have hbi : (b : Int) < 4 := by omega
  clear ha hb'
  go_quiet (first | (go_at_call 88; with_reducible exact Calls.quiet_of_same ((HSA.out _).mono (fun _ _ h => ⟨h.1, h.2.symm⟩))) | (go_at_call 88; with_reducible exact Calls.quiet_of_same ((HSB.out _).mono (fun _ _ h => ⟨h.1, h.2.symm⟩))))
  have HW2 := hide (HW1.out.keep (below_drewN (Below.refl _ _) nq))
  have HB2 := hide (below_drewN HB1.out nq)
  have HBX2 := hide (show (w1.drewN nq).heap[w.heap.size]? = some (opBox 20 s t dst n lst bv) from HBOX.out)
  clear HW1 HB1 HBOX HSA HSB c0 c1 c2 c3 c4 c5 c6
  generalize w1.drewN nq = w2 at *
  obtain ⟨c0, c1, c2, c3, c4, c5, c6⟩ := cells7 HBX2.out
  cases hst : st a with
  | none =>
    obtain ⟨k1, k4⟩ := Rm.void ⟨HW2.out, HB2.out⟩ hal hst
    have HD := hide (show Done w0 W (.returned (.bool true)) w2 from ⟨rfl, st, HW2.out, HB2.out⟩)
    clear hst
    go_wp2_with fail
    go_ret
    exact HD.out
  | some r =>
    have HST := hide hst
    have HSET := hide (HW2.out.sets a r hal hst)
    have hsm := HSET.out.1.small
    clear hst
    have hSz := HW2.out.size
    obtain ⟨k1, k2, k3, k4⟩ := Rm.full ⟨HW2.out, HB2.out⟩ hal HST.out
    have hbx8 := (Below.refl w2.heap.size w2).alloc (Nat.le_refl _) (refBox r.gr r.n)
    have HRA := hide (show Ra2 w0 W st a r w.heap.size w2.heap.size (opBox 20 s t dst n lst bv) (w2.alloc (refBox r.gr r.n)).drew from
      ⟨(Rm.keep ⟨HW2.out, HB2.out⟩ hbx8).keep ((Below.refl _ _).drew), HST.out, hal, (hbx8.block _ (heap_lt HBX2.out)).trans HBX2.out, heap_new rfl _, debr_below HTW.out ((HB2.out.trans (hbx8.mono hSz)).drew) (by omega), by show 15 < (w2.alloc _).heap.size; rw [World.size_alloc]; omega⟩)
    go_upto_region 4 with (fail)
    have n2 := World.new_ne w2 _ k1
    dsimp only at n2
    go_region_held_law (fun w' => w'.cell? ⟨W, a, none⟩ = some (.pointer (some ⟨r.S, 0, none⟩)) ∧ w'.cell? ⟨W, 4 + a * 2, none⟩ = some (.int .i64 (r.n : Nat)) ∧ w'.cell? ⟨W, 4 + a * 2 + 1, none⟩ = some (.slice (some ⟨r.gr, 0, none⟩) r.n r.n)) (first | exact ⟨k1, k2, k3⟩ | (refine ⟨?_, ?_, ?_⟩ <;> simp [World.cell?_alloc_some, World.cell?_setCell_far, k1, k2, k3, n2])) (fail)
    clear hbx8 k1 k2 k3 k4 HSET c0 c1 c2 c3 c4 c5 c6 n2
    clear HW2 HB2 HBX2
    obtain ⟨T8, hT8⟩ : ∃ T, w2.heap.size = T := ⟨_, rfl⟩
    rw [hT8] at HRA
    rw [show (⟨w2.heap.size, 0, none⟩ : Addr) = ⟨T8, 0, none⟩ from by rw [hT8]]
    clear hT8
    generalize (w2.alloc (.cells #[.int .i64 (r.n : Nat), .slice (some ⟨r.gr, 0, none⟩) r.n r.n] 54)).drew = w3 at *
    obtain ⟨S1, g1, cap1, N, gr1, m1⟩ := r
    obtain ⟨b0, b1⟩ := cells2 HRA.out.bx
    obtain ⟨c0, c1, c2, c3, c4, c5, c6⟩ := cells7 HRA.out.ob
    have hsm : N ≤ 1048576 := hsm
    go_upto_region 41 with (fail)
    have hst := HRA.out.keep (w' := w3.drew) ((Below.refl _ _).drew)
    have HALL := hide (fun q => HRA.out.keep (below_drewN (Below.refl w3.heap.size w3) q))
    clear HRA
    go_region_held_law (fun w' => w'.cell? ⟨T8, 0, none⟩ = some (.int .i64 (N : Nat)) ∧ w'.cell? ⟨T8, 1, none⟩ = some (.slice (some ⟨gr1, 0, none⟩) N N) ∧ w'.cell? ⟨w.heap.size, 4, none⟩ = some (.int .i64 n)) (exact ⟨(cells2 (by assumption : Ra2 w0 W st a ⟨S1, g1, cap1, N, gr1, m1⟩ w.heap.size T8 (opBox 20 s t dst n lst bv) _).bx).1, (cells2 (by assumption : Ra2 w0 W st a ⟨S1, g1, cap1, N, gr1, m1⟩ w.heap.size T8 (opBox 20 s t dst n lst bv) _).bx).2, (cells7 (by assumption : Ra2 w0 W st a ⟨S1, g1, cap1, N, gr1, m1⟩ w.heap.size T8 (opBox 20 s t dst n lst bv) _).ob).2.2.2.2.1⟩) (first
      | (go_at_call 24; with_reducible refine (encode_set _ (by assumption : Ra2 w0 W st a ⟨S1, g1, cap1, N, gr1, m1⟩ w.heap.size T8 (opBox 20 s t dst n lst bv) _).set).mono ?_; rintro e w6 ⟨q6, _, rfl, hh6, hb6⟩; have hst6 := Ra2.keep (by assumption : Ra2 w0 W st a ⟨S1, g1, cap1, N, gr1, m1⟩ w.heap.size T8 (opBox 20 s t dst n lst bv) _) hb6; have hsr6 := src_encS hsm hh6; clear hh6 hb6)
      | (go_at_call 61; with_reducible refine (ref_encode _ (by assumption : Ra2 w0 W st a ⟨S1, g1, cap1, N, gr1, m1⟩ w.heap.size T8 (opBox 20 s t dst n lst bv) _).own hsm).mono ?_; rintro e w7 ⟨v7, rfl, ho7, hb7⟩; have hst7 := Ra2.keep (by assumption : Ra2 w0 W st a ⟨S1, g1, cap1, N, gr1, m1⟩ w.heap.size T8 (opBox 20 s t dst n lst bv) _) hb7; have hsr7 := own_src ho7 (encS_lt hsm); have hsr8 := src_keep hsr6 hb7; clear ho7 hb7)
      | (go_at_call 28; refine (bytes_equal _ _ _ (encS N m1) (encS N m1) hsr8 hsr7).mono ?_; rintro e w8 ⟨rfl, rfl⟩))
    all_goals
      have HD := hide (Ra2.done (by assumption : Ra2 w0 W st a ⟨S1, g1, cap1, N, gr1, m1⟩ w.heap.size T8 (opBox 20 s t dst n lst bv) _))
      go_wp2_with fail
      go_ret
      exact HD.out
set_option maxRecDepth 100000 in
set_option maxHeartbeats 1000000 in
theorem asks_members (w0 w : World) (E : Nat → Addr) (hE : Errs w0 E allErrs) (hT : DeBr w0) (hg : 25 ≤ w0.heap.size) (hb : Below w0.heap.size w0 w) {W : Nat} {st : Nat → Option SlotR} (hW : Wd w w0.heap.size W st) (s t dst n : Int) (lst bv : Value) :
    Calls Tryd.prog 74 #[.pointer (some ⟨W, 0, none⟩), OpV 11 s t dst n lst bv] w fun e w' => Done w0 W e w' := by
  have HEW := hide hE
  have HTW := hide hT
  have HB0 := hide hb
  have HW := hide hW
  have hz := hW.size
  clear hE hT hb hW
  go_enter Tryd.func74, Tryd.ntmps74
  go_upto_region 1 with (fail)
  have hbx := (Below.refl w.heap.size w).alloc (Nat.le_refl _) (opBox 11 s t dst n lst bv)
  have hbox : (w.alloc (opBox 11 s t dst n lst bv)).heap[w.heap.size]? = some (opBox 11 s t dst n lst bv) := heap_new rfl _
  have HW1 := hide (HW.out.keep hbx)
  have HB1 := hide (HB0.out.trans (hbx.mono hz))
  obtain ⟨c0, c1, c2, c3, c4, c5, c6⟩ := cells7 hbox
  have HBOX := hide hbox
  clear hbx hbox HW HB0
  generalize w.alloc (opBox 11 s t dst n lst bv) = w1 at *
  obtain ⟨a, ha⟩ : ∃ a, (s % 4).toNat = a := ⟨_, rfl⟩
  obtain ⟨b, hb'⟩ : ∃ b, (t % 4).toNat = b := ⟨_, rfl⟩
  have HSA := hide (fun q => slot_any (w1.drewN q) s)
  have HSB := hide (fun q => slot_any (w1.drewN q) t)
  rw [ha] at HSA
  rw [hb'] at HSB
  have hal : a < 4 := by omega
  have hbl : b < 4 := by omega
  have hai : (a : Int) < 4 := by omega
  have hbi : (b : Int) < 4 := by omega
  clear ha hb'
  go_quiet (first | (go_at_call 88; with_reducible exact Calls.quiet_of_same ((HSA.out _).mono (fun _ _ h => ⟨h.1, h.2.symm⟩))) | (go_at_call 88; with_reducible exact Calls.quiet_of_same ((HSB.out _).mono (fun _ _ h => ⟨h.1, h.2.symm⟩))))
  have HW2 := hide (HW1.out.keep (below_drewN (Below.refl _ _) nq))
  have HB2 := hide (below_drewN HB1.out nq)
  have HBX2 := hide (show (w1.drewN nq).heap[w.heap.size]? = some (opBox 11 s t dst n lst bv) from HBOX.out)
  clear HW1 HB1 HBOX HSA HSB c0 c1 c2 c3 c4 c5 c6
  generalize w1.drewN nq = w2 at *
  obtain ⟨c0, c1, c2, c3, c4, c5, c6⟩ := cells7 HBX2.out
  cases hst : st a with
  | none =>
    obtain ⟨k1, k4⟩ := Rm.void ⟨HW2.out, HB2.out⟩ hal hst
    have HD := hide (show Done w0 W (.returned (.bool true)) w2 from ⟨rfl, st, HW2.out, HB2.out⟩)
    clear hst
    go_wp2_with fail
    go_ret
    exact HD.out
  | some r =>
    have HST := hide hst
    have HSET := hide (HW2.out.sets a r hal hst)
    have hsm := HSET.out.1.small
    clear hst
    have hSz := HW2.out.size
    obtain ⟨k1, k2, k3, k4⟩ := Rm.full ⟨HW2.out, HB2.out⟩ hal HST.out
    have hbx8 := (Below.refl w2.heap.size w2).alloc (Nat.le_refl _) (refBox r.gr r.n)
    have HRA := hide (show Ra2 w0 W st a r w.heap.size w2.heap.size (opBox 11 s t dst n lst bv) (w2.alloc (refBox r.gr r.n)).drew from
      ⟨(Rm.keep ⟨HW2.out, HB2.out⟩ hbx8).keep ((Below.refl _ _).drew), HST.out, hal, (hbx8.block _ (heap_lt HBX2.out)).trans HBX2.out, heap_new rfl _, debr_below HTW.out ((HB2.out.trans (hbx8.mono hSz)).drew) (by omega), by show 15 < (w2.alloc _).heap.size; rw [World.size_alloc]; omega⟩)
    go_upto_region 4 with (fail)
    have n2 := World.new_ne w2 _ k1
    dsimp only at n2
    go_region_held_law (fun w' => w'.cell? ⟨W, a, none⟩ = some (.pointer (some ⟨r.S, 0, none⟩)) ∧ w'.cell? ⟨W, 4 + a * 2, none⟩ = some (.int .i64 (r.n : Nat)) ∧ w'.cell? ⟨W, 4 + a * 2 + 1, none⟩ = some (.slice (some ⟨r.gr, 0, none⟩) r.n r.n)) (first | exact ⟨k1, k2, k3⟩ | (refine ⟨?_, ?_, ?_⟩ <;> simp [World.cell?_alloc_some, World.cell?_setCell_far, k1, k2, k3, n2])) (fail)
    clear hbx8 k1 k2 k3 k4 HSET c0 c1 c2 c3 c4 c5 c6 n2
    clear HW2 HB2 HBX2
    obtain ⟨T8, hT8⟩ : ∃ T, w2.heap.size = T := ⟨_, rfl⟩
    rw [hT8] at HRA
    rw [show (⟨w2.heap.size, 0, none⟩ : Addr) = ⟨T8, 0, none⟩ from by rw [hT8]]
    clear hT8
    generalize (w2.alloc (.cells #[.int .i64 (r.n : Nat), .slice (some ⟨r.gr, 0, none⟩) r.n r.n] 54)).drew = w3 at *
    obtain ⟨S1, g1, cap1, N, gr1, m1⟩ := r
    obtain ⟨b0, b1⟩ := cells2 HRA.out.bx
    obtain ⟨c0, c1, c2, c3, c4, c5, c6⟩ := cells7 HRA.out.ob
    have hsm : N ≤ 1048576 := hsm
    go_upto_region 31 with (fail)
    have hst := HRA.out.keep (w' := w3.drew) ((Below.refl _ _).drew)
    have HALL := hide (fun q => HRA.out.keep (below_drewN (Below.refl w3.heap.size w3) q))
    clear HRA
    go_region_held_law (fun w' => w'.cell? ⟨T8, 0, none⟩ = some (.int .i64 (N : Nat)) ∧ w'.cell? ⟨T8, 1, none⟩ = some (.slice (some ⟨gr1, 0, none⟩) N N) ∧ w'.cell? ⟨w.heap.size, 4, none⟩ = some (.int .i64 n)) (exact ⟨(cells2 (by assumption : Ra2 w0 W st a ⟨S1, g1, cap1, N, gr1, m1⟩ w.heap.size T8 (opBox 11 s t dst n lst bv) _).bx).1, (cells2 (by assumption : Ra2 w0 W st a ⟨S1, g1, cap1, N, gr1, m1⟩ w.heap.size T8 (opBox 11 s t dst n lst bv) _).bx).2, (cells7 (by assumption : Ra2 w0 W st a ⟨S1, g1, cap1, N, gr1, m1⟩ w.heap.size T8 (opBox 11 s t dst n lst bv) _).ob).2.2.2.2.1⟩) (first
      | (go_at_call 13; with_reducible refine (members_any _ (by assumption : Ra2 w0 W st a ⟨S1, g1, cap1, N, gr1, m1⟩ w.heap.size T8 (opBox 11 s t dst n lst bv) _).set (by assumption : Ra2 w0 W st a ⟨S1, g1, cap1, N, gr1, m1⟩ w.heap.size T8 (opBox 11 s t dst n lst bv) _).deb (by assumption : Ra2 w0 W st a ⟨S1, g1, cap1, N, gr1, m1⟩ w.heap.size T8 (opBox 11 s t dst n lst bv) _).sz).mono ?_; rintro e w6 ⟨v6, rfl, ho6, hb6⟩; have hi6 := ints_own (zs := mI m1 N) (by rw [mI_len]; exact ho6); obtain ⟨a6, k6, rfl⟩ := ints_form hi6; have hst6 := Ra2.keep (by assumption : Ra2 w0 W st a ⟨S1, g1, cap1, N, gr1, m1⟩ w.heap.size T8 (opBox 11 s t dst n lst bv) _) hb6; clear ho6 hb6)
      | (go_at_call 33; with_reducible refine (ref_members _ (by assumption : Ra2 w0 W st a ⟨S1, g1, cap1, N, gr1, m1⟩ w.heap.size T8 (opBox 11 s t dst n lst bv) _).own hsm).mono ?_; rintro e w7 ⟨v7, rfl, ho7, hb7⟩; have hi7 := ints_own (zs := mI m1 N) (by rw [mI_len]; exact ho7); obtain ⟨a7, k7, rfl⟩ := ints_form hi7; have hst7 := Ra2.keep (by assumption : Ra2 w0 W st a ⟨S1, g1, cap1, N, gr1, m1⟩ w.heap.size T8 (opBox 11 s t dst n lst bv) _) hb7; have hi6 := ints_keep hi6 hb7; clear ho7 hb7)
      | (go_at_call 23; refine (ints_equal _ _ _ _ _ (mI m1 N) (mI m1 N) hi6 hi7 (by rw [mI_len]; have := cnt_le m1 N; omega)).mono ?_; rintro e w8 ⟨rfl, q8, rfl⟩; have hst8 := Ra2.keep hst7 (below_drewN (Below.refl _ _) q8)))
    all_goals
      have HD := hide (Ra2.done (by assumption : Ra2 w0 W st a ⟨S1, g1, cap1, N, gr1, m1⟩ w.heap.size T8 (opBox 11 s t dst n lst bv) _))
      go_wp2_with fail
      go_ret
      exact HD.out
set_option maxRecDepth 100000 in
set_option maxHeartbeats 1000000 in
theorem asks_runs (w0 w : World) (E : Nat → Addr) (hE : Errs w0 E allErrs) (hT : DeBr w0) (hg : 25 ≤ w0.heap.size) (hb : Below w0.heap.size w0 w) {W : Nat} {st : Nat → Option SlotR} (hW : Wd w w0.heap.size W st) (s t dst n : Int) (lst bv : Value) :
    Calls Tryd.prog 74 #[.pointer (some ⟨W, 0, none⟩), OpV 12 s t dst n lst bv] w fun e w' => Done w0 W e w' := by
  have HEW := hide hE
  have HTW := hide hT
  have HB0 := hide hb
  have HW := hide hW
  have hz := hW.size
  clear hE hT hb hW
  go_enter Tryd.func74, Tryd.ntmps74
  go_upto_region 1 with (fail)
  have hbx := (Below.refl w.heap.size w).alloc (Nat.le_refl _) (opBox 12 s t dst n lst bv)
  have hbox : (w.alloc (opBox 12 s t dst n lst bv)).heap[w.heap.size]? = some (opBox 12 s t dst n lst bv) := heap_new rfl _
  have HW1 := hide (HW.out.keep hbx)
  have HB1 := hide (HB0.out.trans (hbx.mono hz))
  obtain ⟨c0, c1, c2, c3, c4, c5, c6⟩ := cells7 hbox
  have HBOX := hide hbox
  clear hbx hbox HW HB0
  generalize w.alloc (opBox 12 s t dst n lst bv) = w1 at *
  obtain ⟨a, ha⟩ : ∃ a, (s % 4).toNat = a := ⟨_, rfl⟩
  obtain ⟨b, hb'⟩ : ∃ b, (t % 4).toNat = b := ⟨_, rfl⟩
  have HSA := hide (fun q => slot_any (w1.drewN q) s)
  have HSB := hide (fun q => slot_any (w1.drewN q) t)
  rw [ha] at HSA
  rw [hb'] at HSB
  have hal : a < 4 := by omega
  have hbl : b < 4 := by omega
  have hai : (a : Int) < 4 := by omega
  have hbi : (b : Int) < 4 := by omega
  clear ha hb'
  go_quiet (first | (go_at_call 88; with_reducible exact Calls.quiet_of_same ((HSA.out _).mono (fun _ _ h => ⟨h.1, h.2.symm⟩))) | (go_at_call 88; with_reducible exact Calls.quiet_of_same ((HSB.out _).mono (fun _ _ h => ⟨h.1, h.2.symm⟩))))
  have HW2 := hide (HW1.out.keep (below_drewN (Below.refl _ _) nq))
  have HB2 := hide (below_drewN HB1.out nq)
  have HBX2 := hide (show (w1.drewN nq).heap[w.heap.size]? = some (opBox 12 s t dst n lst bv) from HBOX.out)
  clear HW1 HB1 HBOX HSA HSB c0 c1 c2 c3 c4 c5 c6
  generalize w1.drewN nq = w2 at *
  obtain ⟨c0, c1, c2, c3, c4, c5, c6⟩ := cells7 HBX2.out
  cases hst : st a with
  | none =>
    obtain ⟨k1, k4⟩ := Rm.void ⟨HW2.out, HB2.out⟩ hal hst
    have HD := hide (show Done w0 W (.returned (.bool true)) w2 from ⟨rfl, st, HW2.out, HB2.out⟩)
    clear hst
    go_wp2_with fail
    go_ret
    exact HD.out
  | some r =>
    have HST := hide hst
    have HSET := hide (HW2.out.sets a r hal hst)
    have hsm := HSET.out.1.small
    clear hst
    have hSz := HW2.out.size
    obtain ⟨k1, k2, k3, k4⟩ := Rm.full ⟨HW2.out, HB2.out⟩ hal HST.out
    have hbx8 := (Below.refl w2.heap.size w2).alloc (Nat.le_refl _) (refBox r.gr r.n)
    have HRA := hide (show Ra2 w0 W st a r w.heap.size w2.heap.size (opBox 12 s t dst n lst bv) (w2.alloc (refBox r.gr r.n)).drew from
      ⟨(Rm.keep ⟨HW2.out, HB2.out⟩ hbx8).keep ((Below.refl _ _).drew), HST.out, hal, (hbx8.block _ (heap_lt HBX2.out)).trans HBX2.out, heap_new rfl _, debr_below HTW.out ((HB2.out.trans (hbx8.mono hSz)).drew) (by omega), by show 15 < (w2.alloc _).heap.size; rw [World.size_alloc]; omega⟩)
    go_upto_region 4 with (fail)
    have n2 := World.new_ne w2 _ k1
    dsimp only at n2
    go_region_held_law (fun w' => w'.cell? ⟨W, a, none⟩ = some (.pointer (some ⟨r.S, 0, none⟩)) ∧ w'.cell? ⟨W, 4 + a * 2, none⟩ = some (.int .i64 (r.n : Nat)) ∧ w'.cell? ⟨W, 4 + a * 2 + 1, none⟩ = some (.slice (some ⟨r.gr, 0, none⟩) r.n r.n)) (first | exact ⟨k1, k2, k3⟩ | (refine ⟨?_, ?_, ?_⟩ <;> simp [World.cell?_alloc_some, World.cell?_setCell_far, k1, k2, k3, n2])) (fail)
    clear hbx8 k1 k2 k3 k4 HSET c0 c1 c2 c3 c4 c5 c6 n2
    clear HW2 HB2 HBX2
    obtain ⟨T8, hT8⟩ : ∃ T, w2.heap.size = T := ⟨_, rfl⟩
    rw [hT8] at HRA
    rw [show (⟨w2.heap.size, 0, none⟩ : Addr) = ⟨T8, 0, none⟩ from by rw [hT8]]
    clear hT8
    generalize (w2.alloc (.cells #[.int .i64 (r.n : Nat), .slice (some ⟨r.gr, 0, none⟩) r.n r.n] 54)).drew = w3 at *
    obtain ⟨S1, g1, cap1, N, gr1, m1⟩ := r
    obtain ⟨b0, b1⟩ := cells2 HRA.out.bx
    obtain ⟨c0, c1, c2, c3, c4, c5, c6⟩ := cells7 HRA.out.ob
    have hsm : N ≤ 1048576 := hsm
    go_upto_region 33 with (fail)
    have hst := HRA.out.keep (w' := w3.drew) ((Below.refl _ _).drew)
    have HALL := hide (fun q => HRA.out.keep (below_drewN (Below.refl w3.heap.size w3) q))
    clear HRA
    go_region_held_law (fun w' => w'.cell? ⟨T8, 0, none⟩ = some (.int .i64 (N : Nat)) ∧ w'.cell? ⟨T8, 1, none⟩ = some (.slice (some ⟨gr1, 0, none⟩) N N) ∧ w'.cell? ⟨w.heap.size, 4, none⟩ = some (.int .i64 n)) (exact ⟨(cells2 (by assumption : Ra2 w0 W st a ⟨S1, g1, cap1, N, gr1, m1⟩ w.heap.size T8 (opBox 12 s t dst n lst bv) _).bx).1, (cells2 (by assumption : Ra2 w0 W st a ⟨S1, g1, cap1, N, gr1, m1⟩ w.heap.size T8 (opBox 12 s t dst n lst bv) _).bx).2, (cells7 (by assumption : Ra2 w0 W st a ⟨S1, g1, cap1, N, gr1, m1⟩ w.heap.size T8 (opBox 12 s t dst n lst bv) _).ob).2.2.2.2.1⟩) (first
      | (go_at_call 22; with_reducible refine (runs_any _ (by assumption : Ra2 w0 W st a ⟨S1, g1, cap1, N, gr1, m1⟩ w.heap.size T8 (opBox 12 s t dst n lst bv) _).set (by assumption : Ra2 w0 W st a ⟨S1, g1, cap1, N, gr1, m1⟩ w.heap.size T8 (opBox 12 s t dst n lst bv) _).deb (by assumption : Ra2 w0 W st a ⟨S1, g1, cap1, N, gr1, m1⟩ w.heap.size T8 (opBox 12 s t dst n lst bv) _).sz).mono ?_; rintro e w6 ⟨v6, rfl, ho6, hb6⟩; have hst6 := Ra2.keep (by assumption : Ra2 w0 W st a ⟨S1, g1, cap1, N, gr1, m1⟩ w.heap.size T8 (opBox 12 s t dst n lst bv) _) hb6; clear hb6)
      | (go_at_call 70; with_reducible refine (ref_runs _ (by assumption : Ra2 w0 W st a ⟨S1, g1, cap1, N, gr1, m1⟩ w.heap.size T8 (opBox 12 s t dst n lst bv) _).own hsm).mono ?_; rintro e w7 ⟨v7, rfl, ho7, hb7⟩; have hst7 := Ra2.keep (by assumption : Ra2 w0 W st a ⟨S1, g1, cap1, N, gr1, m1⟩ w.heap.size T8 (opBox 12 s t dst n lst bv) _) hb7; have ho6 := row_keepTy ho6 (keepTy_below hb7 43); clear hb7)
      | (go_at_call 71; refine (runs_equal _ _ _ _ _ _ _ ho6 ho7 (by have h1 := runs_len _ (Ds.mem m1 N) rfl; have h2 := cnt_le m1 N; unfold cnt at h2; omega)).mono ?_; rintro e w8 ⟨rfl, q8, rfl⟩; have hst8 := Ra2.keep hst7 (below_drewN (Below.refl _ _) q8)))
    all_goals
      have HD := hide (Ra2.done (by assumption : Ra2 w0 W st a ⟨S1, g1, cap1, N, gr1, m1⟩ w.heap.size T8 (opBox 12 s t dst n lst bv) _))
      go_wp2_with fail
      go_ret
      exact HD.out
set_option maxRecDepth 100000 in
set_option maxHeartbeats 1000000 in
theorem asks_has (w0 w : World) (E : Nat → Addr) (hE : Errs w0 E allErrs) (hT : DeBr w0) (hg : 25 ≤ w0.heap.size) (hb : Below w0.heap.size w0 w) {W : Nat} {st : Nat → Option SlotR} (hW : Wd w w0.heap.size W st) (s t dst n : Int) (lst bv : Value) :
    Calls Tryd.prog 74 #[.pointer (some ⟨W, 0, none⟩), OpV 6 s t dst n lst bv] w fun e w' => Done w0 W e w' := by
  have HEW := hide hE
  have HTW := hide hT
  have HB0 := hide hb
  have HW := hide hW
  have hz := hW.size
  clear hE hT hb hW
  go_enter Tryd.func74, Tryd.ntmps74
  go_upto_region 1 with (fail)
  have hbx := (Below.refl w.heap.size w).alloc (Nat.le_refl _) (opBox 6 s t dst n lst bv)
  have hbox : (w.alloc (opBox 6 s t dst n lst bv)).heap[w.heap.size]? = some (opBox 6 s t dst n lst bv) := heap_new rfl _
  have HW1 := hide (HW.out.keep hbx)
  have HB1 := hide (HB0.out.trans (hbx.mono hz))
  obtain ⟨c0, c1, c2, c3, c4, c5, c6⟩ := cells7 hbox
  have HBOX := hide hbox
  clear hbx hbox HW HB0
  generalize w.alloc (opBox 6 s t dst n lst bv) = w1 at *
  obtain ⟨a, ha⟩ : ∃ a, (s % 4).toNat = a := ⟨_, rfl⟩
  obtain ⟨b, hb'⟩ : ∃ b, (t % 4).toNat = b := ⟨_, rfl⟩
  have HSA := hide (fun q => slot_any (w1.drewN q) s)
  have HSB := hide (fun q => slot_any (w1.drewN q) t)
  rw [ha] at HSA
  rw [hb'] at HSB
  have hal : a < 4 := by omega
  have hbl : b < 4 := by omega
  have hai : (a : Int) < 4 := by omega
  have hbi : (b : Int) < 4 := by omega
  clear ha hb'
  go_quiet (first | (go_at_call 88; with_reducible exact Calls.quiet_of_same ((HSA.out _).mono (fun _ _ h => ⟨h.1, h.2.symm⟩))) | (go_at_call 88; with_reducible exact Calls.quiet_of_same ((HSB.out _).mono (fun _ _ h => ⟨h.1, h.2.symm⟩))))
  have HW2 := hide (HW1.out.keep (below_drewN (Below.refl _ _) nq))
  have HB2 := hide (below_drewN HB1.out nq)
  have HBX2 := hide (show (w1.drewN nq).heap[w.heap.size]? = some (opBox 6 s t dst n lst bv) from HBOX.out)
  clear HW1 HB1 HBOX HSA HSB c0 c1 c2 c3 c4 c5 c6
  generalize w1.drewN nq = w2 at *
  obtain ⟨c0, c1, c2, c3, c4, c5, c6⟩ := cells7 HBX2.out
  cases hst : st a with
  | none =>
    obtain ⟨k1, k4⟩ := Rm.void ⟨HW2.out, HB2.out⟩ hal hst
    have HD := hide (show Done w0 W (.returned (.bool true)) w2 from ⟨rfl, st, HW2.out, HB2.out⟩)
    clear hst
    go_wp2_with fail
    go_ret
    exact HD.out
  | some r =>
    have HST := hide hst
    have HSET := hide (HW2.out.sets a r hal hst)
    have hsm := HSET.out.1.small
    clear hst
    have hSz := HW2.out.size
    obtain ⟨k1, k2, k3, k4⟩ := Rm.full ⟨HW2.out, HB2.out⟩ hal HST.out
    have hbx8 := (Below.refl w2.heap.size w2).alloc (Nat.le_refl _) (refBox r.gr r.n)
    have HRA := hide (show Ra2 w0 W st a r w.heap.size w2.heap.size (opBox 6 s t dst n lst bv) (w2.alloc (refBox r.gr r.n)).drew from
      ⟨(Rm.keep ⟨HW2.out, HB2.out⟩ hbx8).keep ((Below.refl _ _).drew), HST.out, hal, (hbx8.block _ (heap_lt HBX2.out)).trans HBX2.out, heap_new rfl _, debr_below HTW.out ((HB2.out.trans (hbx8.mono hSz)).drew) (by omega), by show 15 < (w2.alloc _).heap.size; rw [World.size_alloc]; omega⟩)
    go_upto_region 4 with (fail)
    have n2 := World.new_ne w2 _ k1
    dsimp only at n2
    go_region_held_law (fun w' => w'.cell? ⟨W, a, none⟩ = some (.pointer (some ⟨r.S, 0, none⟩)) ∧ w'.cell? ⟨W, 4 + a * 2, none⟩ = some (.int .i64 (r.n : Nat)) ∧ w'.cell? ⟨W, 4 + a * 2 + 1, none⟩ = some (.slice (some ⟨r.gr, 0, none⟩) r.n r.n)) (first | exact ⟨k1, k2, k3⟩ | (refine ⟨?_, ?_, ?_⟩ <;> simp [World.cell?_alloc_some, World.cell?_setCell_far, k1, k2, k3, n2])) (fail)
    clear hbx8 k1 k2 k3 k4 HSET c0 c1 c2 c3 c4 c5 c6 n2
    clear HW2 HB2 HBX2
    obtain ⟨T8, hT8⟩ : ∃ T, w2.heap.size = T := ⟨_, rfl⟩
    rw [hT8] at HRA
    rw [show (⟨w2.heap.size, 0, none⟩ : Addr) = ⟨T8, 0, none⟩ from by rw [hT8]]
    clear hT8
    generalize (w2.alloc (.cells #[.int .i64 (r.n : Nat), .slice (some ⟨r.gr, 0, none⟩) r.n r.n] 54)).drew = w3 at *
    obtain ⟨S1, g1, cap1, N, gr1, m1⟩ := r
    obtain ⟨b0, b1⟩ := cells2 HRA.out.bx
    obtain ⟨c0, c1, c2, c3, c4, c5, c6⟩ := cells7 HRA.out.ob
    have hsm : N ≤ 1048576 := hsm
    go_upto_region 17 with (fail)
    have hst := HRA.out.keep (w' := w3.drew) ((Below.refl _ _).drew)
    have HALL := hide (fun q => HRA.out.keep (below_drewN (Below.refl w3.heap.size w3) q))
    clear HRA
    go_region_held_law (fun w' => w'.cell? ⟨T8, 0, none⟩ = some (.int .i64 (N : Nat)) ∧ w'.cell? ⟨T8, 1, none⟩ = some (.slice (some ⟨gr1, 0, none⟩) N N) ∧ w'.cell? ⟨w.heap.size, 4, none⟩ = some (.int .i64 n)) (exact ⟨(cells2 (by assumption : Ra2 w0 W st a ⟨S1, g1, cap1, N, gr1, m1⟩ w.heap.size T8 (opBox 6 s t dst n lst bv) _).bx).1, (cells2 (by assumption : Ra2 w0 W st a ⟨S1, g1, cap1, N, gr1, m1⟩ w.heap.size T8 (opBox 6 s t dst n lst bv) _).bx).2, (cells7 (by assumption : Ra2 w0 W st a ⟨S1, g1, cap1, N, gr1, m1⟩ w.heap.size T8 (opBox 6 s t dst n lst bv) _).ob).2.2.2.2.1⟩) (first
      | (go_at_call 20; with_reducible refine (has_val _ (by assumption : Ra2 w0 W st a ⟨S1, g1, cap1, N, gr1, m1⟩ w.heap.size T8 (opBox 6 s t dst n lst bv) _).set n).mono ?_; rintro e w6 ⟨rfl, rfl⟩)
      | (go_at_call 94; with_reducible refine (ref_has_val _ (by assumption : Ra2 w0 W st a ⟨S1, g1, cap1, N, gr1, m1⟩ w.heap.size T8 (opBox 6 s t dst n lst bv) _).own (by assumption : Ra2 w0 W st a ⟨S1, g1, cap1, N, gr1, m1⟩ w.heap.size T8 (opBox 6 s t dst n lst bv) _).set.off hsm n).mono ?_; rintro e w7 ⟨rfl, hb7⟩; have hst7 := Ra2.keep (by assumption : Ra2 w0 W st a ⟨S1, g1, cap1, N, gr1, m1⟩ w.heap.size T8 (opBox 6 s t dst n lst bv) _) hb7; clear hb7))
    all_goals
      have HD := hide (Ra2.done (by assumption : Ra2 w0 W st a ⟨S1, g1, cap1, N, gr1, m1⟩ w.heap.size T8 (opBox 6 s t dst n lst bv) _))
      go_wp2_with fail
      go_ret
      exact HD.out
set_option maxRecDepth 100000 in
set_option maxHeartbeats 1000000 in
theorem asks_rank (w0 w : World) (E : Nat → Addr) (hE : Errs w0 E allErrs) (hT : DeBr w0) (hg : 25 ≤ w0.heap.size) (hb : Below w0.heap.size w0 w) {W : Nat} {st : Nat → Option SlotR} (hW : Wd w w0.heap.size W st) (s t dst n : Int) (lst bv : Value) :
    Calls Tryd.prog 74 #[.pointer (some ⟨W, 0, none⟩), OpV 7 s t dst n lst bv] w fun e w' => Done w0 W e w' := by
  have HEW := hide hE
  have HTW := hide hT
  have HB0 := hide hb
  have HW := hide hW
  have hz := hW.size
  clear hE hT hb hW
  go_enter Tryd.func74, Tryd.ntmps74
  go_upto_region 1 with (fail)
  have hbx := (Below.refl w.heap.size w).alloc (Nat.le_refl _) (opBox 7 s t dst n lst bv)
  have hbox : (w.alloc (opBox 7 s t dst n lst bv)).heap[w.heap.size]? = some (opBox 7 s t dst n lst bv) := heap_new rfl _
  have HW1 := hide (HW.out.keep hbx)
  have HB1 := hide (HB0.out.trans (hbx.mono hz))
  obtain ⟨c0, c1, c2, c3, c4, c5, c6⟩ := cells7 hbox
  have HBOX := hide hbox
  clear hbx hbox HW HB0
  generalize w.alloc (opBox 7 s t dst n lst bv) = w1 at *
  obtain ⟨a, ha⟩ : ∃ a, (s % 4).toNat = a := ⟨_, rfl⟩
  obtain ⟨b, hb'⟩ : ∃ b, (t % 4).toNat = b := ⟨_, rfl⟩
  have HSA := hide (fun q => slot_any (w1.drewN q) s)
  have HSB := hide (fun q => slot_any (w1.drewN q) t)
  rw [ha] at HSA
  rw [hb'] at HSB
  have hal : a < 4 := by omega
  have hbl : b < 4 := by omega
  have hai : (a : Int) < 4 := by omega
  have hbi : (b : Int) < 4 := by omega
  clear ha hb'
  go_quiet (first | (go_at_call 88; with_reducible exact Calls.quiet_of_same ((HSA.out _).mono (fun _ _ h => ⟨h.1, h.2.symm⟩))) | (go_at_call 88; with_reducible exact Calls.quiet_of_same ((HSB.out _).mono (fun _ _ h => ⟨h.1, h.2.symm⟩))))
  have HW2 := hide (HW1.out.keep (below_drewN (Below.refl _ _) nq))
  have HB2 := hide (below_drewN HB1.out nq)
  have HBX2 := hide (show (w1.drewN nq).heap[w.heap.size]? = some (opBox 7 s t dst n lst bv) from HBOX.out)
  clear HW1 HB1 HBOX HSA HSB c0 c1 c2 c3 c4 c5 c6
  generalize w1.drewN nq = w2 at *
  obtain ⟨c0, c1, c2, c3, c4, c5, c6⟩ := cells7 HBX2.out
  cases hst : st a with
  | none =>
    obtain ⟨k1, k4⟩ := Rm.void ⟨HW2.out, HB2.out⟩ hal hst
    have HD := hide (show Done w0 W (.returned (.bool true)) w2 from ⟨rfl, st, HW2.out, HB2.out⟩)
    clear hst
    go_wp2_with fail
    go_ret
    exact HD.out
  | some r =>
    have HST := hide hst
    have HSET := hide (HW2.out.sets a r hal hst)
    have hsm := HSET.out.1.small
    clear hst
    have hSz := HW2.out.size
    obtain ⟨k1, k2, k3, k4⟩ := Rm.full ⟨HW2.out, HB2.out⟩ hal HST.out
    have hbx8 := (Below.refl w2.heap.size w2).alloc (Nat.le_refl _) (refBox r.gr r.n)
    have HRA := hide (show Ra2 w0 W st a r w.heap.size w2.heap.size (opBox 7 s t dst n lst bv) (w2.alloc (refBox r.gr r.n)).drew from
      ⟨(Rm.keep ⟨HW2.out, HB2.out⟩ hbx8).keep ((Below.refl _ _).drew), HST.out, hal, (hbx8.block _ (heap_lt HBX2.out)).trans HBX2.out, heap_new rfl _, debr_below HTW.out ((HB2.out.trans (hbx8.mono hSz)).drew) (by omega), by show 15 < (w2.alloc _).heap.size; rw [World.size_alloc]; omega⟩)
    go_upto_region 4 with (fail)
    have n2 := World.new_ne w2 _ k1
    dsimp only at n2
    go_region_held_law (fun w' => w'.cell? ⟨W, a, none⟩ = some (.pointer (some ⟨r.S, 0, none⟩)) ∧ w'.cell? ⟨W, 4 + a * 2, none⟩ = some (.int .i64 (r.n : Nat)) ∧ w'.cell? ⟨W, 4 + a * 2 + 1, none⟩ = some (.slice (some ⟨r.gr, 0, none⟩) r.n r.n)) (first | exact ⟨k1, k2, k3⟩ | (refine ⟨?_, ?_, ?_⟩ <;> simp [World.cell?_alloc_some, World.cell?_setCell_far, k1, k2, k3, n2])) (fail)
    clear hbx8 k1 k2 k3 k4 HSET c0 c1 c2 c3 c4 c5 c6 n2
    clear HW2 HB2 HBX2
    obtain ⟨T8, hT8⟩ : ∃ T, w2.heap.size = T := ⟨_, rfl⟩
    rw [hT8] at HRA
    rw [show (⟨w2.heap.size, 0, none⟩ : Addr) = ⟨T8, 0, none⟩ from by rw [hT8]]
    clear hT8
    generalize (w2.alloc (.cells #[.int .i64 (r.n : Nat), .slice (some ⟨r.gr, 0, none⟩) r.n r.n] 54)).drew = w3 at *
    obtain ⟨S1, g1, cap1, N, gr1, m1⟩ := r
    obtain ⟨b0, b1⟩ := cells2 HRA.out.bx
    obtain ⟨c0, c1, c2, c3, c4, c5, c6⟩ := cells7 HRA.out.ob
    have hsm : N ≤ 1048576 := hsm
    go_upto_region 19 with (fail)
    have hst := HRA.out.keep (w' := w3.drew) ((Below.refl _ _).drew)
    have HALL := hide (fun q => HRA.out.keep (below_drewN (Below.refl w3.heap.size w3) q))
    clear HRA
    go_region_held_law (fun w' => w'.cell? ⟨T8, 0, none⟩ = some (.int .i64 (N : Nat)) ∧ w'.cell? ⟨T8, 1, none⟩ = some (.slice (some ⟨gr1, 0, none⟩) N N) ∧ w'.cell? ⟨w.heap.size, 4, none⟩ = some (.int .i64 n)) (exact ⟨(cells2 (by assumption : Ra2 w0 W st a ⟨S1, g1, cap1, N, gr1, m1⟩ w.heap.size T8 (opBox 7 s t dst n lst bv) _).bx).1, (cells2 (by assumption : Ra2 w0 W st a ⟨S1, g1, cap1, N, gr1, m1⟩ w.heap.size T8 (opBox 7 s t dst n lst bv) _).bx).2, (cells7 (by assumption : Ra2 w0 W st a ⟨S1, g1, cap1, N, gr1, m1⟩ w.heap.size T8 (opBox 7 s t dst n lst bv) _).ob).2.2.2.2.1⟩) (first
      | (go_at_call 18; with_reducible refine (rank_any _ (by assumption : Ra2 w0 W st a ⟨S1, g1, cap1, N, gr1, m1⟩ w.heap.size T8 (opBox 7 s t dst n lst bv) _).set n).mono ?_; rintro e w6 ⟨rfl, q6, rfl⟩; have hst6 := HALL.out (1 + q6))
      | (go_at_call 95; with_reducible refine (ref_rank _ (by assumption : Ra2 w0 W st a ⟨S1, g1, cap1, N, gr1, m1⟩ w.heap.size T8 (opBox 7 s t dst n lst bv) _).own (by assumption : Ra2 w0 W st a ⟨S1, g1, cap1, N, gr1, m1⟩ w.heap.size T8 (opBox 7 s t dst n lst bv) _).set.off n hsm).mono ?_; rintro e w7 ⟨rfl, hb7⟩; have hst7 := Ra2.keep (by assumption : Ra2 w0 W st a ⟨S1, g1, cap1, N, gr1, m1⟩ w.heap.size T8 (opBox 7 s t dst n lst bv) _) hb7; clear hb7))
    all_goals
      have HD := hide (Ra2.done (by assumption : Ra2 w0 W st a ⟨S1, g1, cap1, N, gr1, m1⟩ w.heap.size T8 (opBox 7 s t dst n lst bv) _))
      go_wp2_with fail
      go_ret
      exact HD.out
set_option maxRecDepth 100000 in
set_option maxHeartbeats 1000000 in
theorem asks_size (w0 w : World) (E : Nat → Addr) (hE : Errs w0 E allErrs) (hT : DeBr w0) (hg : 25 ≤ w0.heap.size) (hb : Below w0.heap.size w0 w) {W : Nat} {st : Nat → Option SlotR} (hW : Wd w w0.heap.size W st) (s t dst n : Int) (lst bv : Value) :
    Calls Tryd.prog 74 #[.pointer (some ⟨W, 0, none⟩), OpV 10 s t dst n lst bv] w fun e w' => Done w0 W e w' := by
  have HEW := hide hE
  have HTW := hide hT
  have HB0 := hide hb
  have HW := hide hW
  have hz := hW.size
  clear hE hT hb hW
  go_enter Tryd.func74, Tryd.ntmps74
  go_upto_region 1 with (fail)
  have hbx := (Below.refl w.heap.size w).alloc (Nat.le_refl _) (opBox 10 s t dst n lst bv)
  have hbox : (w.alloc (opBox 10 s t dst n lst bv)).heap[w.heap.size]? = some (opBox 10 s t dst n lst bv) := heap_new rfl _
  have HW1 := hide (HW.out.keep hbx)
  have HB1 := hide (HB0.out.trans (hbx.mono hz))
  obtain ⟨c0, c1, c2, c3, c4, c5, c6⟩ := cells7 hbox
  have HBOX := hide hbox
  clear hbx hbox HW HB0
  generalize w.alloc (opBox 10 s t dst n lst bv) = w1 at *
  obtain ⟨a, ha⟩ : ∃ a, (s % 4).toNat = a := ⟨_, rfl⟩
  obtain ⟨b, hb'⟩ : ∃ b, (t % 4).toNat = b := ⟨_, rfl⟩
  have HSA := hide (fun q => slot_any (w1.drewN q) s)
  have HSB := hide (fun q => slot_any (w1.drewN q) t)
  rw [ha] at HSA
  rw [hb'] at HSB
  have hal : a < 4 := by omega
  have hbl : b < 4 := by omega
  have hai : (a : Int) < 4 := by omega
  have hbi : (b : Int) < 4 := by omega
  clear ha hb'
  go_quiet (first | (go_at_call 88; with_reducible exact Calls.quiet_of_same ((HSA.out _).mono (fun _ _ h => ⟨h.1, h.2.symm⟩))) | (go_at_call 88; with_reducible exact Calls.quiet_of_same ((HSB.out _).mono (fun _ _ h => ⟨h.1, h.2.symm⟩))))
  have HW2 := hide (HW1.out.keep (below_drewN (Below.refl _ _) nq))
  have HB2 := hide (below_drewN HB1.out nq)
  have HBX2 := hide (show (w1.drewN nq).heap[w.heap.size]? = some (opBox 10 s t dst n lst bv) from HBOX.out)
  clear HW1 HB1 HBOX HSA HSB c0 c1 c2 c3 c4 c5 c6
  generalize w1.drewN nq = w2 at *
  obtain ⟨c0, c1, c2, c3, c4, c5, c6⟩ := cells7 HBX2.out
  cases hst : st a with
  | none =>
    obtain ⟨k1, k4⟩ := Rm.void ⟨HW2.out, HB2.out⟩ hal hst
    have HD := hide (show Done w0 W (.returned (.bool true)) w2 from ⟨rfl, st, HW2.out, HB2.out⟩)
    clear hst
    go_wp2_with fail
    go_ret
    exact HD.out
  | some r =>
    have HST := hide hst
    have HSET := hide (HW2.out.sets a r hal hst)
    have hsm := HSET.out.1.small
    clear hst
    have hSz := HW2.out.size
    obtain ⟨k1, k2, k3, k4⟩ := Rm.full ⟨HW2.out, HB2.out⟩ hal HST.out
    have hbx8 := (Below.refl w2.heap.size w2).alloc (Nat.le_refl _) (refBox r.gr r.n)
    have HRA := hide (show Ra2 w0 W st a r w.heap.size w2.heap.size (opBox 10 s t dst n lst bv) (w2.alloc (refBox r.gr r.n)).drew from
      ⟨(Rm.keep ⟨HW2.out, HB2.out⟩ hbx8).keep ((Below.refl _ _).drew), HST.out, hal, (hbx8.block _ (heap_lt HBX2.out)).trans HBX2.out, heap_new rfl _, debr_below HTW.out ((HB2.out.trans (hbx8.mono hSz)).drew) (by omega), by show 15 < (w2.alloc _).heap.size; rw [World.size_alloc]; omega⟩)
    go_upto_region 4 with (fail)
    have n2 := World.new_ne w2 _ k1
    dsimp only at n2
    go_region_held_law (fun w' => w'.cell? ⟨W, a, none⟩ = some (.pointer (some ⟨r.S, 0, none⟩)) ∧ w'.cell? ⟨W, 4 + a * 2, none⟩ = some (.int .i64 (r.n : Nat)) ∧ w'.cell? ⟨W, 4 + a * 2 + 1, none⟩ = some (.slice (some ⟨r.gr, 0, none⟩) r.n r.n)) (first | exact ⟨k1, k2, k3⟩ | (refine ⟨?_, ?_, ?_⟩ <;> simp [World.cell?_alloc_some, World.cell?_setCell_far, k1, k2, k3, n2])) (fail)
    clear hbx8 k1 k2 k3 k4 HSET c0 c1 c2 c3 c4 c5 c6 n2
    clear HW2 HB2 HBX2
    obtain ⟨T8, hT8⟩ : ∃ T, w2.heap.size = T := ⟨_, rfl⟩
    rw [hT8] at HRA
    rw [show (⟨w2.heap.size, 0, none⟩ : Addr) = ⟨T8, 0, none⟩ from by rw [hT8]]
    clear hT8
    generalize (w2.alloc (.cells #[.int .i64 (r.n : Nat), .slice (some ⟨r.gr, 0, none⟩) r.n r.n] 54)).drew = w3 at *
    obtain ⟨S1, g1, cap1, N, gr1, m1⟩ := r
    obtain ⟨b0, b1⟩ := cells2 HRA.out.bx
    obtain ⟨c0, c1, c2, c3, c4, c5, c6⟩ := cells7 HRA.out.ob
    have hsm : N ≤ 1048576 := hsm
    go_upto_region 29 with (fail)
    have hst := HRA.out.keep (w' := w3.drew) ((Below.refl _ _).drew)
    have HALL := hide (fun q => HRA.out.keep (below_drewN (Below.refl w3.heap.size w3) q))
    clear HRA
    go_region_held_law (fun w' => w'.cell? ⟨T8, 0, none⟩ = some (.int .i64 (N : Nat)) ∧ w'.cell? ⟨T8, 1, none⟩ = some (.slice (some ⟨gr1, 0, none⟩) N N) ∧ w'.cell? ⟨w.heap.size, 4, none⟩ = some (.int .i64 n)) (exact ⟨(cells2 (by assumption : Ra2 w0 W st a ⟨S1, g1, cap1, N, gr1, m1⟩ w.heap.size T8 (opBox 10 s t dst n lst bv) _).bx).1, (cells2 (by assumption : Ra2 w0 W st a ⟨S1, g1, cap1, N, gr1, m1⟩ w.heap.size T8 (opBox 10 s t dst n lst bv) _).bx).2, (cells7 (by assumption : Ra2 w0 W st a ⟨S1, g1, cap1, N, gr1, m1⟩ w.heap.size T8 (opBox 10 s t dst n lst bv) _).ob).2.2.2.2.1⟩) (first
      | (go_at_call 32; with_reducible refine (len_any _ (by assumption : Ra2 w0 W st a ⟨S1, g1, cap1, N, gr1, m1⟩ w.heap.size T8 (opBox 10 s t dst n lst bv) _).set).mono ?_; rintro e w6 ⟨rfl, rfl⟩)
      | (go_at_call 17; with_reducible refine (count_any _ (by assumption : Ra2 w0 W st a ⟨S1, g1, cap1, N, gr1, m1⟩ w.heap.size T8 (opBox 10 s t dst n lst bv) _).set).mono ?_; rintro e w6 ⟨rfl, rfl⟩)
      | (go_at_call 98; with_reducible refine (ref_count _ (by assumption : Ra2 w0 W st a ⟨S1, g1, cap1, N, gr1, m1⟩ w.heap.size T8 (opBox 10 s t dst n lst bv) _).own (by assumption : Ra2 w0 W st a ⟨S1, g1, cap1, N, gr1, m1⟩ w.heap.size T8 (opBox 10 s t dst n lst bv) _).set.off hsm).mono ?_; rintro e w7 ⟨rfl, hb7⟩; have hst7 := Ra2.keep (by assumption : Ra2 w0 W st a ⟨S1, g1, cap1, N, gr1, m1⟩ w.heap.size T8 (opBox 10 s t dst n lst bv) _) hb7; clear hb7))
    all_goals
      have HD := hide (Ra2.done (by assumption : Ra2 w0 W st a ⟨S1, g1, cap1, N, gr1, m1⟩ w.heap.size T8 (opBox 10 s t dst n lst bv) _))
      go_wp2_with fail
      go_ret
      exact HD.out
set_option maxRecDepth 100000 in
set_option maxHeartbeats 1000000 in
theorem asks_select (w0 w : World) (E : Nat → Addr) (hE : Errs w0 E allErrs) (hT : DeBr w0) (hg : 25 ≤ w0.heap.size) (hb : Below w0.heap.size w0 w) {W : Nat} {st : Nat → Option SlotR} (hW : Wd w w0.heap.size W st) (s t dst n : Int) (lst bv : Value) :
    Calls Tryd.prog 74 #[.pointer (some ⟨W, 0, none⟩), OpV 8 s t dst n lst bv] w fun e w' => Done w0 W e w' := by
  have HEW := hide hE
  have HTW := hide hT
  have HB0 := hide hb
  have HW := hide hW
  have hz := hW.size
  clear hE hT hb hW
  go_enter Tryd.func74, Tryd.ntmps74
  go_upto_region 1 with (fail)
  have hbx := (Below.refl w.heap.size w).alloc (Nat.le_refl _) (opBox 8 s t dst n lst bv)
  have hbox : (w.alloc (opBox 8 s t dst n lst bv)).heap[w.heap.size]? = some (opBox 8 s t dst n lst bv) := heap_new rfl _
  have HW1 := hide (HW.out.keep hbx)
  have HB1 := hide (HB0.out.trans (hbx.mono hz))
  obtain ⟨c0, c1, c2, c3, c4, c5, c6⟩ := cells7 hbox
  have HBOX := hide hbox
  clear hbx hbox HW HB0
  generalize w.alloc (opBox 8 s t dst n lst bv) = w1 at *
  obtain ⟨a, ha⟩ : ∃ a, (s % 4).toNat = a := ⟨_, rfl⟩
  obtain ⟨b, hb'⟩ : ∃ b, (t % 4).toNat = b := ⟨_, rfl⟩
  have HSA := hide (fun q => slot_any (w1.drewN q) s)
  have HSB := hide (fun q => slot_any (w1.drewN q) t)
  rw [ha] at HSA
  rw [hb'] at HSB
  have hal : a < 4 := by omega
  have hbl : b < 4 := by omega
  have hai : (a : Int) < 4 := by omega
  have hbi : (b : Int) < 4 := by omega
  clear ha hb'
  go_quiet (first | (go_at_call 88; with_reducible exact Calls.quiet_of_same ((HSA.out _).mono (fun _ _ h => ⟨h.1, h.2.symm⟩))) | (go_at_call 88; with_reducible exact Calls.quiet_of_same ((HSB.out _).mono (fun _ _ h => ⟨h.1, h.2.symm⟩))))
  have HW2 := hide (HW1.out.keep (below_drewN (Below.refl _ _) nq))
  have HB2 := hide (below_drewN HB1.out nq)
  have HBX2 := hide (show (w1.drewN nq).heap[w.heap.size]? = some (opBox 8 s t dst n lst bv) from HBOX.out)
  clear HW1 HB1 HBOX HSA HSB c0 c1 c2 c3 c4 c5 c6
  generalize w1.drewN nq = w2 at *
  obtain ⟨c0, c1, c2, c3, c4, c5, c6⟩ := cells7 HBX2.out
  cases hst : st a with
  | none =>
    obtain ⟨k1, k4⟩ := Rm.void ⟨HW2.out, HB2.out⟩ hal hst
    have HD := hide (show Done w0 W (.returned (.bool true)) w2 from ⟨rfl, st, HW2.out, HB2.out⟩)
    clear hst
    go_wp2_with fail
    go_ret
    exact HD.out
  | some r =>
    have HST := hide hst
    have HSET := hide (HW2.out.sets a r hal hst)
    have hsm := HSET.out.1.small
    clear hst
    have hSz := HW2.out.size
    obtain ⟨k1, k2, k3, k4⟩ := Rm.full ⟨HW2.out, HB2.out⟩ hal HST.out
    have hbx8 := (Below.refl w2.heap.size w2).alloc (Nat.le_refl _) (refBox r.gr r.n)
    have HRA := hide (show Ra2 w0 W st a r w.heap.size w2.heap.size (opBox 8 s t dst n lst bv) (w2.alloc (refBox r.gr r.n)).drew from
      ⟨(Rm.keep ⟨HW2.out, HB2.out⟩ hbx8).keep ((Below.refl _ _).drew), HST.out, hal, (hbx8.block _ (heap_lt HBX2.out)).trans HBX2.out, heap_new rfl _, debr_below HTW.out ((HB2.out.trans (hbx8.mono hSz)).drew) (by omega), by show 15 < (w2.alloc _).heap.size; rw [World.size_alloc]; omega⟩)
    go_upto_region 4 with (fail)
    have n2 := World.new_ne w2 _ k1
    dsimp only at n2
    go_region_held_law (fun w' => w'.cell? ⟨W, a, none⟩ = some (.pointer (some ⟨r.S, 0, none⟩)) ∧ w'.cell? ⟨W, 4 + a * 2, none⟩ = some (.int .i64 (r.n : Nat)) ∧ w'.cell? ⟨W, 4 + a * 2 + 1, none⟩ = some (.slice (some ⟨r.gr, 0, none⟩) r.n r.n)) (first | exact ⟨k1, k2, k3⟩ | (refine ⟨?_, ?_, ?_⟩ <;> simp [World.cell?_alloc_some, World.cell?_setCell_far, k1, k2, k3, n2])) (fail)
    clear hbx8 k1 k2 k3 k4 HSET c0 c1 c2 c3 c4 c5 c6 n2
    clear HW2 HB2 HBX2
    obtain ⟨T8, hT8⟩ : ∃ T, w2.heap.size = T := ⟨_, rfl⟩
    rw [hT8] at HRA
    rw [show (⟨w2.heap.size, 0, none⟩ : Addr) = ⟨T8, 0, none⟩ from by rw [hT8]]
    clear hT8
    generalize (w2.alloc (.cells #[.int .i64 (r.n : Nat), .slice (some ⟨r.gr, 0, none⟩) r.n r.n] 54)).drew = w3 at *
    obtain ⟨S1, g1, cap1, N, gr1, m1⟩ := r
    obtain ⟨b0, b1⟩ := cells2 HRA.out.bx
    obtain ⟨c0, c1, c2, c3, c4, c5, c6⟩ := cells7 HRA.out.ob
    have hsm : N ≤ 1048576 := hsm
    obtain ⟨x, y, hxy⟩ := sel_form m1 N n
    have HXY := hide hxy
    clear hxy
    go_wp2_with fail
    refine (select_any w3 HRA.out.set HRA.out.deb n).mono ?_
    rintro e w4 ⟨he, rfl⟩
    obtain rfl := HXY.out e he
    clear he
    go_wp2_with fail
    refine (ref_select w3 HRA.out.own n hsm).mono ?_
    rintro e w5 ⟨he, hb5⟩
    obtain rfl := HXY.out e he
    have HD := hide (HRA.out.keep hb5).done
    clear he hb5
    go_wp2_with fail
    go_ret
    exact HD.out
set_option maxRecDepth 100000 in
set_option maxHeartbeats 1000000 in
theorem asks_next (w0 w : World) (E : Nat → Addr) (hE : Errs w0 E allErrs) (hT : DeBr w0) (hg : 25 ≤ w0.heap.size) (hb : Below w0.heap.size w0 w) {W : Nat} {st : Nat → Option SlotR} (hW : Wd w w0.heap.size W st) (s t dst n : Int) (lst bv : Value) :
    Calls Tryd.prog 74 #[.pointer (some ⟨W, 0, none⟩), OpV 9 s t dst n lst bv] w fun e w' => Done w0 W e w' := by
  have HEW := hide hE
  have HTW := hide hT
  have HB0 := hide hb
  have HW := hide hW
  have hz := hW.size
  clear hE hT hb hW
  go_enter Tryd.func74, Tryd.ntmps74
  go_upto_region 1 with (fail)
  have hbx := (Below.refl w.heap.size w).alloc (Nat.le_refl _) (opBox 9 s t dst n lst bv)
  have hbox : (w.alloc (opBox 9 s t dst n lst bv)).heap[w.heap.size]? = some (opBox 9 s t dst n lst bv) := heap_new rfl _
  have HW1 := hide (HW.out.keep hbx)
  have HB1 := hide (HB0.out.trans (hbx.mono hz))
  obtain ⟨c0, c1, c2, c3, c4, c5, c6⟩ := cells7 hbox
  have HBOX := hide hbox
  clear hbx hbox HW HB0
  generalize w.alloc (opBox 9 s t dst n lst bv) = w1 at *
  obtain ⟨a, ha⟩ : ∃ a, (s % 4).toNat = a := ⟨_, rfl⟩
  obtain ⟨b, hb'⟩ : ∃ b, (t % 4).toNat = b := ⟨_, rfl⟩
  have HSA := hide (fun q => slot_any (w1.drewN q) s)
  have HSB := hide (fun q => slot_any (w1.drewN q) t)
  rw [ha] at HSA
  rw [hb'] at HSB
  have hal : a < 4 := by omega
  have hbl : b < 4 := by omega
  have hai : (a : Int) < 4 := by omega
  have hbi : (b : Int) < 4 := by omega
  clear ha hb'
  go_quiet (first | (go_at_call 88; with_reducible exact Calls.quiet_of_same ((HSA.out _).mono (fun _ _ h => ⟨h.1, h.2.symm⟩))) | (go_at_call 88; with_reducible exact Calls.quiet_of_same ((HSB.out _).mono (fun _ _ h => ⟨h.1, h.2.symm⟩))))
  have HW2 := hide (HW1.out.keep (below_drewN (Below.refl _ _) nq))
  have HB2 := hide (below_drewN HB1.out nq)
  have HBX2 := hide (show (w1.drewN nq).heap[w.heap.size]? = some (opBox 9 s t dst n lst bv) from HBOX.out)
  clear HW1 HB1 HBOX HSA HSB c0 c1 c2 c3 c4 c5 c6
  generalize w1.drewN nq = w2 at *
  obtain ⟨c0, c1, c2, c3, c4, c5, c6⟩ := cells7 HBX2.out
  cases hst : st a with
  | none =>
    obtain ⟨k1, k4⟩ := Rm.void ⟨HW2.out, HB2.out⟩ hal hst
    have HD := hide (show Done w0 W (.returned (.bool true)) w2 from ⟨rfl, st, HW2.out, HB2.out⟩)
    clear hst
    go_wp2_with fail
    go_ret
    exact HD.out
  | some r =>
    have HST := hide hst
    have HSET := hide (HW2.out.sets a r hal hst)
    have hsm := HSET.out.1.small
    clear hst
    have hSz := HW2.out.size
    obtain ⟨k1, k2, k3, k4⟩ := Rm.full ⟨HW2.out, HB2.out⟩ hal HST.out
    have hbx8 := (Below.refl w2.heap.size w2).alloc (Nat.le_refl _) (refBox r.gr r.n)
    have HRA := hide (show Ra2 w0 W st a r w.heap.size w2.heap.size (opBox 9 s t dst n lst bv) (w2.alloc (refBox r.gr r.n)).drew from
      ⟨(Rm.keep ⟨HW2.out, HB2.out⟩ hbx8).keep ((Below.refl _ _).drew), HST.out, hal, (hbx8.block _ (heap_lt HBX2.out)).trans HBX2.out, heap_new rfl _, debr_below HTW.out ((HB2.out.trans (hbx8.mono hSz)).drew) (by omega), by show 15 < (w2.alloc _).heap.size; rw [World.size_alloc]; omega⟩)
    go_upto_region 4 with (fail)
    have n2 := World.new_ne w2 _ k1
    dsimp only at n2
    go_region_held_law (fun w' => w'.cell? ⟨W, a, none⟩ = some (.pointer (some ⟨r.S, 0, none⟩)) ∧ w'.cell? ⟨W, 4 + a * 2, none⟩ = some (.int .i64 (r.n : Nat)) ∧ w'.cell? ⟨W, 4 + a * 2 + 1, none⟩ = some (.slice (some ⟨r.gr, 0, none⟩) r.n r.n)) (first | exact ⟨k1, k2, k3⟩ | (refine ⟨?_, ?_, ?_⟩ <;> simp [World.cell?_alloc_some, World.cell?_setCell_far, k1, k2, k3, n2])) (fail)
    clear hbx8 k1 k2 k3 k4 HSET c0 c1 c2 c3 c4 c5 c6 n2
    clear HW2 HB2 HBX2
    obtain ⟨T8, hT8⟩ : ∃ T, w2.heap.size = T := ⟨_, rfl⟩
    rw [hT8] at HRA
    rw [show (⟨w2.heap.size, 0, none⟩ : Addr) = ⟨T8, 0, none⟩ from by rw [hT8]]
    clear hT8
    generalize (w2.alloc (.cells #[.int .i64 (r.n : Nat), .slice (some ⟨r.gr, 0, none⟩) r.n r.n] 54)).drew = w3 at *
    obtain ⟨S1, g1, cap1, N, gr1, m1⟩ := r
    obtain ⟨b0, b1⟩ := cells2 HRA.out.bx
    obtain ⟨c0, c1, c2, c3, c4, c5, c6⟩ := cells7 HRA.out.ob
    have hsm : N ≤ 1048576 := hsm
    obtain ⟨x, y, hxy⟩ := next_form m1 N n.toNat
    have HXY := hide hxy
    clear hxy
    go_wp2_with fail
    refine (next_any w3 HRA.out.set HRA.out.deb n).mono ?_
    rintro e w4 ⟨he, rfl⟩
    obtain rfl := HXY.out e he
    clear he
    go_wp2_with fail
    refine (ref_next w3 HRA.out.own n hsm).mono ?_
    rintro e w5 ⟨he, hb5⟩
    obtain rfl := HXY.out e he
    have HD := hide (HRA.out.keep hb5).done
    clear he hb5
    go_wp2_with fail
    go_ret
    exact HD.out
end Go.Proofs.YtmkbbekeimnajaaDoor
