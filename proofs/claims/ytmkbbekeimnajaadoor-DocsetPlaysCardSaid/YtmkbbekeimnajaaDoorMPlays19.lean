/- texts of this proof, one behind the other: Pj -/
import Derived.Test.YtmkbbekeimnajaaDoorMPlays0
import Derived.Test.YtmkbbekeimnajaaDoorMPlays1
import Derived.Test.YtmkbbekeimnajaaDoorMPlays2
import Derived.Test.YtmkbbekeimnajaaDoorMPlays3
import Derived.Test.YtmkbbekeimnajaaDoorMPlays4
import Derived.Test.YtmkbbekeimnajaaDoorMPlays5
import Derived.Test.YtmkbbekeimnajaaDoorMPlays6
import Derived.Test.YtmkbbekeimnajaaDoorMPlays7
import Derived.Test.YtmkbbekeimnajaaDoorMPlays8
import Derived.Test.YtmkbbekeimnajaaDoorMPlays9
import Derived.Test.YtmkbbekeimnajaaDoorMPlays10
import Derived.Test.YtmkbbekeimnajaaDoorMPlays11
import Derived.Test.YtmkbbekeimnajaaDoorMPlays12
import Derived.Test.YtmkbbekeimnajaaDoorMPlays13
import Derived.Test.YtmkbbekeimnajaaDoorMPlays14
import Derived.Test.YtmkbbekeimnajaaDoorMPlays15
import Derived.Test.YtmkbbekeimnajaaDoorMPlays16
import Derived.Test.YtmkbbekeimnajaaDoorMPlays17
import Derived.Test.YtmkbbekeimnajaaDoorMPlays18
/-! Pj: joins (92); makes (73): And, Or, Minus -/
namespace Go.Proofs.YtmkbbekeimnajaaDoor
open Go.RowKit Ds
theorem box_set {w : World} {T : Nat} {a b x y : Value} {t : TypeId} {fr : Nat × Nat} (h : w.heap[T]? = some (.cells #[a, b] t fr)) : (w.cell? ⟨T, 0, none⟩ = some a ∧ w.frozen? ⟨T, 0, none⟩ = w.frozen? ⟨T, 0, none⟩) ∧ ((w.setCell ⟨T, 0, none⟩ x).setCell ⟨T, 1, none⟩ y).heap[T]? = some (.cells #[x, y] t fr) :=
  ⟨⟨(cells2 h).1, rfl⟩, set2 h⟩
/-- a box of the document's answer is filled -/
theorem Rm.box {w0 wr : World} {W T : Nat} {st : Nat → Option SlotR} (h : Rm w0 W st wr) {a b : Value} (hT : wr.heap[T]? = some (.cells #[a, b] 54 (0, 0))) (hB : w0.heap.size ≤ T) (x y : Value) :
    Rm w0 W st ((wr.setCell ⟨T, 0, none⟩ x).setCell ⟨T, 1, none⟩ y) := by
  have h1 : ∀ ty : TypeId, 54 ≠ ty → KeepTy wr ((wr.setCell ⟨T, 0, none⟩ x).setCell ⟨T, 1, none⟩ y) ty := fun ty hty => (keepTy_at hT hty x).trans (keepTy_at (heap_set hT x) hty y)
  obtain ⟨cs, k1, k2⟩ := h.wd.blk
  exact ⟨⟨⟨cs, h1 75 (by decide) _ _ _ k1, k2⟩, fun i s hi hs => by
    obtain ⟨p, q, r⟩ := h.wd.sets i s hi hs
    exact ⟨p.keepTy (h1 82 (by decide)) (h1 83 (by decide)), h1 4 (by decide) _ _ _ q, r⟩, h.wd.ap, h.wd.base, by rw [World.size_setCell, World.size_setCell]; exact h.wd.size⟩, below_set (below_set h.bel hB _) hB _⟩
theorem set_box {wr : World} {T S g cap n : Nat} {m : Nat → Bool} (h : SetAt wr S g cap n m) {a b : Value} (hT : wr.heap[T]? = some (.cells #[a, b] 54 (0, 0))) (x y : Value) : SetAt ((wr.setCell ⟨T, 0, none⟩ x).setCell ⟨T, 1, none⟩ y) S g cap n m :=
  (h.far (i := 0) hT (by decide) (by decide) x).far (i := 1) (heap_set hT x) (by decide) (by decide) y
theorem own_box {wr : World} {T g n : Nat} {m : Nat → Bool} (h : ROwn wr g n m) {a b : Value} (hT : wr.heap[T]? = some (.cells #[a, b] 54 (0, 0))) (x y : Value) : ROwn ((wr.setCell ⟨T, 0, none⟩ x).setCell ⟨T, 1, none⟩ y) g n m :=
  keepTy_at (i := 1) (heap_set hT x) (t := 4) (by decide) y _ _ _ (keepTy_at (i := 0) hT (t := 4) (by decide) x _ _ _ h)
set_option maxRecDepth 100000 in
set_option maxHeartbeats 2000000 in
theorem joins_15 (w0 w : World) (E : Nat → Addr) (hE : Errs w0 E allErrs) (hg : 25 ≤ w0.heap.size) {W : Nat} {st : Nat → Option SlotR} (hR : Rm w0 W st w) (s t dst n : Int) (lst bv : Value) {a b d : Nat} (hal : a < 4) (hbl : b < 4) (hdl : d < 4) {r : SlotR} (hst : st a = some r) :
    Calls Tryd.prog 92 #[.pointer (some ⟨W, 0, none⟩), OpV 15 s t dst n lst bv, .int .i64 (a : Nat), .int .i64 (b : Nat), .int .i64 (d : Nat)] w fun e w' => Done w0 W e w' := by
  have HEW := hide hE
  have HR := hide hR
  have HST := hide hst
  have hai : (a : Int) < 4 := by omega
  have hbi : (b : Int) < 4 := by omega
  have hdi : (d : Int) < 4 := by omega
  have hsm := (hR.wd.sets a r hal hst).1.small
  clear hE hR hst
  obtain ⟨S1, g1, cap1, N, gr1, m1⟩ := r
  dsimp only at hsm
  go_enter Tryd.func92, Tryd.ntmps92
  go_upto_region 1 with (fail)
  have hbx := (Below.refl w.heap.size w).alloc (Nat.le_refl _) (opBox 15 s t dst n lst bv)
  have hbox : (w.alloc (opBox 15 s t dst n lst bv)).heap[w.heap.size]? = some (opBox 15 s t dst n lst bv) := heap_new rfl _
  have HR1 := hide (HR.out.keep hbx)
  obtain ⟨c0, c1, c2, c3, c4, c5, c6⟩ := cells7 hbox
  clear hbx hbox HR
  generalize w.alloc (opBox 15 s t dst n lst bv) = w1 at *
  obtain ⟨k1, k2, k3, k4⟩ := Rm.full HR1.out hal HST.out
  dsimp only at k1 k2 k3
  cases hst2 : st b with
  | none =>
    obtain ⟨l1, l4⟩ := Rm.void HR1.out hbl hst2
    clear hst2
    have hs1 := (HR1.out.wd.sets a _ hal HST.out).1
    dsimp only at hs1
    have HJ := hide (join_no_56 w1.drew _ _ (E 9) (fun f => mixed_nil w1.drew (hs1.keep ((Below.refl _ _).drew)) f (E 9) ((HEW.out.below HR1.out.bel.drew (Nat.le_refl _) (ids_lt hg)).cell 9 (by decide))))
    clear hs1
    go_upto_region 6 with (fail)
    go_region_held_law (fun w' => w'.cell? ⟨W, a, none⟩ = some (.pointer (some ⟨S1, 0, none⟩)) ∧ w'.cell? ⟨W, b, none⟩ = some (.pointer none)) (exact ⟨k1, l1⟩) ((go_at_call 56; with_reducible refine HJ.out.mono ?_; rintro e w2 ⟨rfl, q, rfl⟩))
    have HR2 := hide (HR1.out.keep (below_drewN (Below.refl w1.heap.size w1) (1 + q)))
    have l42 : (w1.drewN (1 + q)).cell? ⟨W, 12 + b, none⟩ = some (.bool false) := l4
    clear HJ HR1 k1 k2 k3 k4 l1 l4 c0 c1 c2 c3 c4 c5 c6
    generalize w1.drewN (1 + q) = w2 at *
    go_wp2_with fail
    refine (num_size w2 E (HEW.out.below HR2.out.bel (Nat.le_refl _) (ids_lt hg))).mono ?_
    rintro e w3 ⟨rfl, rfl⟩
    have HD := hide (show Done w0 W (.returned (.bool true)) w2 from ⟨rfl, st, HR2.out.wd, HR2.out.bel⟩)
    go_wp2_with fail
    go_ret
    exact HD.out
  | some r2 =>
    have HST2 := hide hst2
    clear hst2
    obtain ⟨S2, g2, cap2, N2, gr2, m2⟩ := r2
    obtain ⟨l1, l2, l3, l4⟩ := Rm.full HR1.out hbl HST2.out
    dsimp only at l1 l2 l3
    by_cases hNN : N = N2
    · subst hNN
      go_upto_region 6 with (fail)
      have hrm := HR1.out.keep (w' := w1.drew) ((Below.refl _ _).drew)
      clear c1 c2 c3 c4 c5 c6
      go_region_held_law (fun w' => w'.cell? ⟨W, a, none⟩ = some (.pointer (some ⟨S1, 0, none⟩)) ∧ w'.cell? ⟨W, b, none⟩ = some (.pointer (some ⟨S2, 0, none⟩))) (exact ⟨(Rm.full (by assumption : Rm w0 W st _) hal HST.out).1, (Rm.full (by assumption : Rm w0 W st _) hbl HST2.out).1⟩) ((go_at_call 56; refine (join_56 _ ((by assumption : Rm w0 W st _).wd.sets a _ hal HST.out).1 ((by assumption : Rm w0 W st _).wd.sets b _ hbl HST2.out).1).mono ?_; rintro e w2 ⟨S, g, rfl, hS, hgg, hs, hb2⟩; have hF := (by assumption : Rm w0 W st _).wd.fresh hS hgg; have hz2 := (by assumption : Rm w0 W st _).wd.size; have hrm2 := Rm.keep (by assumption : Rm w0 W st _) hb2))
      have HR2 := hide hrm2
      have HF := hide (fun i s hi (_ : i ≠ d) hs => hF i s hi hs)
      have HGE := hide (show w0.heap.size ≤ S ∧ w0.heap.size ≤ g from ⟨by omega, by omega⟩)
      have HS2 := hide hs
      clear hrm hrm2 hF hz2 hs hS hgg HR1 k1 k2 k3 k4 l1 l2 l3 l4 hb2 c0
      obtain ⟨k1, k2, k3, k4⟩ := Rm.full HR2.out hal HST.out
      obtain ⟨l1, l2, l3, l4⟩ := Rm.full HR2.out hbl HST2.out
      dsimp only at k1 k2 k3 l1 l2 l3
      go_upto_region 16 with (fail)
      go_cut [14, 15] (fun tv ev wx => ∃ T gr, tv = .pointer (some ⟨T, 0, none⟩) ∧ ev = .int .i64 0 ∧ Rm w0 W st wx ∧ SetAt wx S g (nw N) N (fun i => m1 i && m2 i) ∧ ROwn wx gr N (fun i => m1 i && m2 i) ∧ wx.heap[T]? = some (refBox gr N))
      case first =>
        have hrm := HR2.out.keep (w' := w2.drew) ((Below.refl _ _).drew)
        have hs := HS2.out.keep (w' := w2.drew) ((Below.refl _ _).drew)
        have n2 := World.new_ne w2 _ k2
        have hoa := (HR2.out.wd.sets a _ hal HST.out).2.1
        have hob := (HR2.out.wd.sets b _ hbl HST2.out).2.1
        dsimp only at hoa hob
        have hB2 := HR2.out.wd.size
        dsimp only at n2
        go_region_held_law (fun w' => w'.cell? ⟨W, 4 + a * 2, none⟩ = some (.int .i64 (N : Nat)) ∧ w'.cell? ⟨W, 4 + a * 2 + 1, none⟩ = some (.slice (some ⟨gr1, 0, none⟩) N N) ∧ w'.cell? ⟨W, 4 + b * 2, none⟩ = some (.int .i64 (N : Nat)) ∧ w'.cell? ⟨W, 4 + b * 2 + 1, none⟩ = some (.slice (some ⟨gr2, 0, none⟩) N N)) (first | exact ⟨k2, k3, l2, l3⟩ | exact ⟨x2, x3, y2, y3⟩ | (refine ⟨?_, ?_, ?_, ?_⟩ <;> simp [World.cell?_alloc_some, World.cell?_setCell_far, x2, x3, y2, y3, n2, n3]) | (refine ⟨?_, ?_, ?_, ?_⟩ <;> simp [World.cell?_alloc_some, World.cell?_setCell_far, k2, k3, l2, l3, n2])) ((go_at_call 101; refine (ref_join_1 _ (m := m1) (m3 := m2) (by first | exact hoa | exact hoa.keep (((Below.refl _ _).alloc (Nat.le_refl _) _).drew)) (by first | exact hob | exact hob.keep (((Below.refl _ _).alloc (Nat.le_refl _) _).drew)) hsm).mono ?_; rintro e w3 ⟨gr, rfl, hgr, ho, hb3⟩; have hB3 : Below w2.heap.size w2 w3 := (by first | exact below_undrew' hb3 | exact ((Below.refl w2.heap.size w2).alloc (Nat.le_refl _) _).trans ((below_undrew' hb3).mono (by show w2.heap.size ≤ (w2.alloc _).heap.size; rw [World.size_alloc]; omega))); have hrm3 := HR2.out.keep hB3; have hs3 := HS2.out.keep hB3; obtain ⟨x1, x2, x3, x4⟩ := Rm.full hrm3 hal HST.out; obtain ⟨y1, y2, y3, y4⟩ := Rm.full hrm3 hbl HST2.out; dsimp only at x1 x2 x3 y1 y2 y3; have n3 := World.new_ne w3 _ x2; dsimp only at n3; (try (have hT3 : w3.heap[w2.heap.size]? = some noBox := (hb3.block _ (show w2.heap.size < (w2.alloc noBox).heap.size by rw [World.size_alloc]; omega)).trans (heap_new rfl _); obtain ⟨q0, q1⟩ := cells2 hT3; have f0 := free_at hT3 0; have f1 := free_at hT3 1))))
        all_goals
          go_wp2_with fail
          go_meet
          first
            | exact ⟨w3.heap.size, gr, rfl, rfl, hrm3.keep ((Below.refl _ _).alloc (Nat.le_refl _) _), hs3.keep ((Below.refl _ _).alloc (Nat.le_refl _) _), ho.keep ((Below.refl _ _).alloc (Nat.le_refl _) _), heap_new rfl _⟩
            | exact ⟨w2.heap.size, gr, rfl, rfl, hrm3.box hT3 hB2 _ _, set_box hs3 hT3 _ _, own_box ho hT3 _ _, set2 hT3⟩
      case rest =>
        obtain ⟨T, gr, rfl, rfl, hr3, hs3, ho3, hbx3⟩ := hcut
        have HR3 := hide hr3
        have HS3 := hide hs3
        have HO3 := hide ho3
        obtain ⟨d0, d1⟩ := cells2 hbx3
        clear hr3 hs3 ho3 hbx3 HR2 HS2 k1 k2 k3 k4 l1 l2 l3 l4
        go_wp2_with fail
        refine (put_ok wc HR3.out.wd hdl HS3.out HO3.out HGE.out HF.out).mono ?_
        rintro e w6 ⟨rfl, hw6, hb6⟩
        have HD := hide (show Done w0 W (.returned (.bool true)) w6 from ⟨rfl, _, hw6, HR3.out.bel.trans hb6⟩)
        clear hw6 hb6
        go_wp2_with fail
        go_ret
        exact HD.out
    · have HNE := hide hNN
      have hs1 := (HR1.out.wd.sets a _ hal HST.out).1
      have hs2 := (HR1.out.wd.sets b _ hbl HST2.out).1
      dsimp only at hs1 hs2
      have HJ := hide (join_no_56 w1.drew _ _ (E 9) (fun f => mixed_size w1.drew (hs1.keep ((Below.refl _ _).drew)) (hs2.keep ((Below.refl _ _).drew)) HNE.out f (E 9) ((HEW.out.below HR1.out.bel.drew (Nat.le_refl _) (ids_lt hg)).cell 9 (by decide))))
      clear hs1 hs2 hNN
      go_upto_region 6 with (fail)
      go_region_held_law (fun w' => w'.cell? ⟨W, a, none⟩ = some (.pointer (some ⟨S1, 0, none⟩)) ∧ w'.cell? ⟨W, b, none⟩ = some (.pointer (some ⟨S2, 0, none⟩))) (exact ⟨k1, l1⟩) ((go_at_call 56; with_reducible refine HJ.out.mono ?_; rintro e w2 ⟨rfl, q, rfl⟩))
      have HR2 := hide (HR1.out.keep (below_drewN (Below.refl w1.heap.size w1) (1 + q)))
      clear HJ HR1 k1 k2 k3 k4 l1 l2 l3 l4 c0 c1 c2 c3 c4 c5 c6
      generalize w1.drewN (1 + q) = w2 at *
      obtain ⟨k1, k2, k3, k4⟩ := Rm.full HR2.out hal HST.out
      obtain ⟨l1, l2, l3, l4⟩ := Rm.full HR2.out hbl HST2.out
      dsimp only at k1 k2 k3 l1 l2 l3
      go_upto_region 16 with (fail)
      go_cut [14, 15] (fun tv ev wx => ∃ T, tv = .pointer (some ⟨T, 0, none⟩) ∧ ev = .int .i64 9 ∧ Rm w0 W st wx ∧ wx.heap[T]? = some noBox)
      case first =>
        have n2 := World.new_ne w2 _ k2
        have hB2 := HR2.out.wd.size
        dsimp only at n2
        go_region_held_law (fun w' => w'.cell? ⟨W, 4 + a * 2, none⟩ = some (.int .i64 (N : Nat)) ∧ w'.cell? ⟨W, 4 + a * 2 + 1, none⟩ = some (.slice (some ⟨gr1, 0, none⟩) N N) ∧ w'.cell? ⟨W, 4 + b * 2, none⟩ = some (.int .i64 (N2 : Nat)) ∧ w'.cell? ⟨W, 4 + b * 2 + 1, none⟩ = some (.slice (some ⟨gr2, 0, none⟩) N2 N2)) (first | exact ⟨k2, k3, l2, l3⟩ | exact ⟨x2, x3, y2, y3⟩ | (refine ⟨?_, ?_, ?_, ?_⟩ <;> simp [World.cell?_alloc_some, World.cell?_setCell_far, x2, x3, y2, y3, n2, n3]) | (refine ⟨?_, ?_, ?_, ?_⟩ <;> simp [World.cell?_alloc_some, World.cell?_setCell_far, k2, k3, l2, l3, n2])) ((go_at_call 101; refine (ref_join_size _ _ HNE.out).mono ?_; rintro e w3 ⟨rfl, hb3⟩; have hB3 : Below w2.heap.size w2 w3 := (by first | exact below_undrew' hb3 | exact ((Below.refl w2.heap.size w2).alloc (Nat.le_refl _) _).trans ((below_undrew' hb3).mono (by show w2.heap.size ≤ (w2.alloc _).heap.size; rw [World.size_alloc]; omega))); have hrm3 := HR2.out.keep hB3; obtain ⟨x1, x2, x3, x4⟩ := Rm.full hrm3 hal HST.out; obtain ⟨y1, y2, y3, y4⟩ := Rm.full hrm3 hbl HST2.out; dsimp only at x1 x2 x3 y1 y2 y3; have n3 := World.new_ne w3 _ x2; dsimp only at n3; (try (have hT3 : w3.heap[w2.heap.size]? = some noBox := (hb3.block _ (show w2.heap.size < (w2.alloc noBox).heap.size by rw [World.size_alloc]; omega)).trans (heap_new rfl _); obtain ⟨q0, q1⟩ := cells2 hT3; have f0 := free_at hT3 0; have f1 := free_at hT3 1))))
        all_goals
          go_wp2_with fail
          go_meet
          first
            | exact ⟨w3.heap.size, rfl, rfl, hrm3.keep ((Below.refl _ _).alloc (Nat.le_refl _) _), heap_new rfl _⟩
            | exact ⟨w2.heap.size, rfl, rfl, hrm3.box hT3 hB2 _ _, set2 hT3⟩
      case rest =>
        obtain ⟨T, rfl, rfl, hr3, hbx3⟩ := hcut
        have HR3 := hide hr3
        obtain ⟨d0, d1⟩ := cells2 hbx3
        clear hr3 hbx3 HR2 k1 k2 k3 k4 l1 l2 l3 l4
        go_wp2_with fail
        refine (put_bad wc (W := W) (t := d) (E 9) 9 (by decide) (fun w6 hb6 => num_size w6 E ((HEW.out.below HR3.out.bel (Nat.le_refl _) (ids_lt hg)).below hb6 (Nat.le_refl _) (fun g hg' => Nat.lt_of_lt_of_le (ids_lt hg g hg') HR3.out.wd.size)))).mono ?_
        rintro e w6 ⟨rfl, hb6⟩
        have HD := hide (show Done w0 W (.returned (.bool true)) w6 from ⟨rfl, _, HR3.out.wd.keep hb6, HR3.out.bel.trans (hb6.mono HR3.out.wd.size)⟩)
        clear hb6
        go_wp2_with fail
        go_ret
        exact HD.out
set_option maxRecDepth 100000 in
set_option maxHeartbeats 2000000 in
theorem joins_16 (w0 w : World) (E : Nat → Addr) (hE : Errs w0 E allErrs) (hg : 25 ≤ w0.heap.size) {W : Nat} {st : Nat → Option SlotR} (hR : Rm w0 W st w) (s t dst n : Int) (lst bv : Value) {a b d : Nat} (hal : a < 4) (hbl : b < 4) (hdl : d < 4) {r : SlotR} (hst : st a = some r) :
    Calls Tryd.prog 92 #[.pointer (some ⟨W, 0, none⟩), OpV 16 s t dst n lst bv, .int .i64 (a : Nat), .int .i64 (b : Nat), .int .i64 (d : Nat)] w fun e w' => Done w0 W e w' := by
  have HEW := hide hE
  have HR := hide hR
  have HST := hide hst
  have hai : (a : Int) < 4 := by omega
  have hbi : (b : Int) < 4 := by omega
  have hdi : (d : Int) < 4 := by omega
  have hsm := (hR.wd.sets a r hal hst).1.small
  clear hE hR hst
  obtain ⟨S1, g1, cap1, N, gr1, m1⟩ := r
  dsimp only at hsm
  go_enter Tryd.func92, Tryd.ntmps92
  go_upto_region 1 with (fail)
  have hbx := (Below.refl w.heap.size w).alloc (Nat.le_refl _) (opBox 16 s t dst n lst bv)
  have hbox : (w.alloc (opBox 16 s t dst n lst bv)).heap[w.heap.size]? = some (opBox 16 s t dst n lst bv) := heap_new rfl _
  have HR1 := hide (HR.out.keep hbx)
  obtain ⟨c0, c1, c2, c3, c4, c5, c6⟩ := cells7 hbox
  clear hbx hbox HR
  generalize w.alloc (opBox 16 s t dst n lst bv) = w1 at *
  obtain ⟨k1, k2, k3, k4⟩ := Rm.full HR1.out hal HST.out
  dsimp only at k1 k2 k3
  cases hst2 : st b with
  | none =>
    obtain ⟨l1, l4⟩ := Rm.void HR1.out hbl hst2
    clear hst2
    have hs1 := (HR1.out.wd.sets a _ hal HST.out).1
    dsimp only at hs1
    have HJ := hide (join_no_57 w1.drew _ _ (E 9) (fun f => mixed_nil w1.drew (hs1.keep ((Below.refl _ _).drew)) f (E 9) ((HEW.out.below HR1.out.bel.drew (Nat.le_refl _) (ids_lt hg)).cell 9 (by decide))))
    clear hs1
    go_upto_region 9 with (fail)
    go_region_held_law (fun w' => w'.cell? ⟨W, a, none⟩ = some (.pointer (some ⟨S1, 0, none⟩)) ∧ w'.cell? ⟨W, b, none⟩ = some (.pointer none)) (exact ⟨k1, l1⟩) ((go_at_call 57; with_reducible refine HJ.out.mono ?_; rintro e w2 ⟨rfl, q, rfl⟩))
    have HR2 := hide (HR1.out.keep (below_drewN (Below.refl w1.heap.size w1) (1 + q)))
    have l42 : (w1.drewN (1 + q)).cell? ⟨W, 12 + b, none⟩ = some (.bool false) := l4
    clear HJ HR1 k1 k2 k3 k4 l1 l4 c0 c1 c2 c3 c4 c5 c6
    generalize w1.drewN (1 + q) = w2 at *
    go_wp2_with fail
    refine (num_size w2 E (HEW.out.below HR2.out.bel (Nat.le_refl _) (ids_lt hg))).mono ?_
    rintro e w3 ⟨rfl, rfl⟩
    have HD := hide (show Done w0 W (.returned (.bool true)) w2 from ⟨rfl, st, HR2.out.wd, HR2.out.bel⟩)
    go_wp2_with fail
    go_ret
    exact HD.out
  | some r2 =>
    have HST2 := hide hst2
    clear hst2
    obtain ⟨S2, g2, cap2, N2, gr2, m2⟩ := r2
    obtain ⟨l1, l2, l3, l4⟩ := Rm.full HR1.out hbl HST2.out
    dsimp only at l1 l2 l3
    by_cases hNN : N = N2
    · subst hNN
      go_upto_region 9 with (fail)
      have hrm := HR1.out.keep (w' := w1.drew) ((Below.refl _ _).drew)
      clear c1 c2 c3 c4 c5 c6
      go_region_held_law (fun w' => w'.cell? ⟨W, a, none⟩ = some (.pointer (some ⟨S1, 0, none⟩)) ∧ w'.cell? ⟨W, b, none⟩ = some (.pointer (some ⟨S2, 0, none⟩))) (exact ⟨(Rm.full (by assumption : Rm w0 W st _) hal HST.out).1, (Rm.full (by assumption : Rm w0 W st _) hbl HST2.out).1⟩) ((go_at_call 57; refine (join_57 _ ((by assumption : Rm w0 W st _).wd.sets a _ hal HST.out).1 ((by assumption : Rm w0 W st _).wd.sets b _ hbl HST2.out).1).mono ?_; rintro e w2 ⟨S, g, rfl, hS, hgg, hs, hb2⟩; have hF := (by assumption : Rm w0 W st _).wd.fresh hS hgg; have hz2 := (by assumption : Rm w0 W st _).wd.size; have hrm2 := Rm.keep (by assumption : Rm w0 W st _) hb2))
      have HR2 := hide hrm2
      have HF := hide (fun i s hi (_ : i ≠ d) hs => hF i s hi hs)
      have HGE := hide (show w0.heap.size ≤ S ∧ w0.heap.size ≤ g from ⟨by omega, by omega⟩)
      have HS2 := hide hs
      clear hrm hrm2 hF hz2 hs hS hgg HR1 k1 k2 k3 k4 l1 l2 l3 l4 hb2 c0
      obtain ⟨k1, k2, k3, k4⟩ := Rm.full HR2.out hal HST.out
      obtain ⟨l1, l2, l3, l4⟩ := Rm.full HR2.out hbl HST2.out
      dsimp only at k1 k2 k3 l1 l2 l3
      go_upto_region 16 with (fail)
      go_cut [14, 15] (fun tv ev wx => ∃ T gr, tv = .pointer (some ⟨T, 0, none⟩) ∧ ev = .int .i64 0 ∧ Rm w0 W st wx ∧ SetAt wx S g (nw N) N (fun i => m1 i || m2 i) ∧ ROwn wx gr N (fun i => m1 i || m2 i) ∧ wx.heap[T]? = some (refBox gr N))
      case first =>
        have hrm := HR2.out.keep (w' := w2.drew) ((Below.refl _ _).drew)
        have hs := HS2.out.keep (w' := w2.drew) ((Below.refl _ _).drew)
        have n2 := World.new_ne w2 _ k2
        have hoa := (HR2.out.wd.sets a _ hal HST.out).2.1
        have hob := (HR2.out.wd.sets b _ hbl HST2.out).2.1
        dsimp only at hoa hob
        have hB2 := HR2.out.wd.size
        dsimp only at n2
        go_region_held_law (fun w' => w'.cell? ⟨W, 4 + a * 2, none⟩ = some (.int .i64 (N : Nat)) ∧ w'.cell? ⟨W, 4 + a * 2 + 1, none⟩ = some (.slice (some ⟨gr1, 0, none⟩) N N) ∧ w'.cell? ⟨W, 4 + b * 2, none⟩ = some (.int .i64 (N : Nat)) ∧ w'.cell? ⟨W, 4 + b * 2 + 1, none⟩ = some (.slice (some ⟨gr2, 0, none⟩) N N)) (first | exact ⟨k2, k3, l2, l3⟩ | exact ⟨x2, x3, y2, y3⟩ | (refine ⟨?_, ?_, ?_, ?_⟩ <;> simp [World.cell?_alloc_some, World.cell?_setCell_far, x2, x3, y2, y3, n2, n3]) | (refine ⟨?_, ?_, ?_, ?_⟩ <;> simp [World.cell?_alloc_some, World.cell?_setCell_far, k2, k3, l2, l3, n2])) ((go_at_call 101; refine (ref_join_2 _ (m := m1) (m3 := m2) (by first | exact hoa | exact hoa.keep (((Below.refl _ _).alloc (Nat.le_refl _) _).drew)) (by first | exact hob | exact hob.keep (((Below.refl _ _).alloc (Nat.le_refl _) _).drew)) hsm).mono ?_; rintro e w3 ⟨gr, rfl, hgr, ho, hb3⟩; have hB3 : Below w2.heap.size w2 w3 := (by first | exact below_undrew' hb3 | exact ((Below.refl w2.heap.size w2).alloc (Nat.le_refl _) _).trans ((below_undrew' hb3).mono (by show w2.heap.size ≤ (w2.alloc _).heap.size; rw [World.size_alloc]; omega))); have hrm3 := HR2.out.keep hB3; have hs3 := HS2.out.keep hB3; obtain ⟨x1, x2, x3, x4⟩ := Rm.full hrm3 hal HST.out; obtain ⟨y1, y2, y3, y4⟩ := Rm.full hrm3 hbl HST2.out; dsimp only at x1 x2 x3 y1 y2 y3; have n3 := World.new_ne w3 _ x2; dsimp only at n3; (try (have hT3 : w3.heap[w2.heap.size]? = some noBox := (hb3.block _ (show w2.heap.size < (w2.alloc noBox).heap.size by rw [World.size_alloc]; omega)).trans (heap_new rfl _); obtain ⟨q0, q1⟩ := cells2 hT3; have f0 := free_at hT3 0; have f1 := free_at hT3 1))))
        all_goals
          go_wp2_with fail
          go_meet
          first
            | exact ⟨w3.heap.size, gr, rfl, rfl, hrm3.keep ((Below.refl _ _).alloc (Nat.le_refl _) _), hs3.keep ((Below.refl _ _).alloc (Nat.le_refl _) _), ho.keep ((Below.refl _ _).alloc (Nat.le_refl _) _), heap_new rfl _⟩
            | exact ⟨w2.heap.size, gr, rfl, rfl, hrm3.box hT3 hB2 _ _, set_box hs3 hT3 _ _, own_box ho hT3 _ _, set2 hT3⟩
      case rest =>
        obtain ⟨T, gr, rfl, rfl, hr3, hs3, ho3, hbx3⟩ := hcut
        have HR3 := hide hr3
        have HS3 := hide hs3
        have HO3 := hide ho3
        obtain ⟨d0, d1⟩ := cells2 hbx3
        clear hr3 hs3 ho3 hbx3 HR2 HS2 k1 k2 k3 k4 l1 l2 l3 l4
        go_wp2_with fail
        refine (put_ok wc HR3.out.wd hdl HS3.out HO3.out HGE.out HF.out).mono ?_
        rintro e w6 ⟨rfl, hw6, hb6⟩
        have HD := hide (show Done w0 W (.returned (.bool true)) w6 from ⟨rfl, _, hw6, HR3.out.bel.trans hb6⟩)
        clear hw6 hb6
        go_wp2_with fail
        go_ret
        exact HD.out
    · have HNE := hide hNN
      have hs1 := (HR1.out.wd.sets a _ hal HST.out).1
      have hs2 := (HR1.out.wd.sets b _ hbl HST2.out).1
      dsimp only at hs1 hs2
      have HJ := hide (join_no_57 w1.drew _ _ (E 9) (fun f => mixed_size w1.drew (hs1.keep ((Below.refl _ _).drew)) (hs2.keep ((Below.refl _ _).drew)) HNE.out f (E 9) ((HEW.out.below HR1.out.bel.drew (Nat.le_refl _) (ids_lt hg)).cell 9 (by decide))))
      clear hs1 hs2 hNN
      go_upto_region 9 with (fail)
      go_region_held_law (fun w' => w'.cell? ⟨W, a, none⟩ = some (.pointer (some ⟨S1, 0, none⟩)) ∧ w'.cell? ⟨W, b, none⟩ = some (.pointer (some ⟨S2, 0, none⟩))) (exact ⟨k1, l1⟩) ((go_at_call 57; with_reducible refine HJ.out.mono ?_; rintro e w2 ⟨rfl, q, rfl⟩))
      have HR2 := hide (HR1.out.keep (below_drewN (Below.refl w1.heap.size w1) (1 + q)))
      clear HJ HR1 k1 k2 k3 k4 l1 l2 l3 l4 c0 c1 c2 c3 c4 c5 c6
      generalize w1.drewN (1 + q) = w2 at *
      obtain ⟨k1, k2, k3, k4⟩ := Rm.full HR2.out hal HST.out
      obtain ⟨l1, l2, l3, l4⟩ := Rm.full HR2.out hbl HST2.out
      dsimp only at k1 k2 k3 l1 l2 l3
      go_upto_region 16 with (fail)
      go_cut [14, 15] (fun tv ev wx => ∃ T, tv = .pointer (some ⟨T, 0, none⟩) ∧ ev = .int .i64 9 ∧ Rm w0 W st wx ∧ wx.heap[T]? = some noBox)
      case first =>
        have n2 := World.new_ne w2 _ k2
        have hB2 := HR2.out.wd.size
        dsimp only at n2
        go_region_held_law (fun w' => w'.cell? ⟨W, 4 + a * 2, none⟩ = some (.int .i64 (N : Nat)) ∧ w'.cell? ⟨W, 4 + a * 2 + 1, none⟩ = some (.slice (some ⟨gr1, 0, none⟩) N N) ∧ w'.cell? ⟨W, 4 + b * 2, none⟩ = some (.int .i64 (N2 : Nat)) ∧ w'.cell? ⟨W, 4 + b * 2 + 1, none⟩ = some (.slice (some ⟨gr2, 0, none⟩) N2 N2)) (first | exact ⟨k2, k3, l2, l3⟩ | exact ⟨x2, x3, y2, y3⟩ | (refine ⟨?_, ?_, ?_, ?_⟩ <;> simp [World.cell?_alloc_some, World.cell?_setCell_far, x2, x3, y2, y3, n2, n3]) | (refine ⟨?_, ?_, ?_, ?_⟩ <;> simp [World.cell?_alloc_some, World.cell?_setCell_far, k2, k3, l2, l3, n2])) ((go_at_call 101; refine (ref_join_size _ _ HNE.out).mono ?_; rintro e w3 ⟨rfl, hb3⟩; have hB3 : Below w2.heap.size w2 w3 := (by first | exact below_undrew' hb3 | exact ((Below.refl w2.heap.size w2).alloc (Nat.le_refl _) _).trans ((below_undrew' hb3).mono (by show w2.heap.size ≤ (w2.alloc _).heap.size; rw [World.size_alloc]; omega))); have hrm3 := HR2.out.keep hB3; obtain ⟨x1, x2, x3, x4⟩ := Rm.full hrm3 hal HST.out; obtain ⟨y1, y2, y3, y4⟩ := Rm.full hrm3 hbl HST2.out; dsimp only at x1 x2 x3 y1 y2 y3; have n3 := World.new_ne w3 _ x2; dsimp only at n3; (try (have hT3 : w3.heap[w2.heap.size]? = some noBox := (hb3.block _ (show w2.heap.size < (w2.alloc noBox).heap.size by rw [World.size_alloc]; omega)).trans (heap_new rfl _); obtain ⟨q0, q1⟩ := cells2 hT3; have f0 := free_at hT3 0; have f1 := free_at hT3 1))))
        all_goals
          go_wp2_with fail
          go_meet
          first
            | exact ⟨w3.heap.size, rfl, rfl, hrm3.keep ((Below.refl _ _).alloc (Nat.le_refl _) _), heap_new rfl _⟩
            | exact ⟨w2.heap.size, rfl, rfl, hrm3.box hT3 hB2 _ _, set2 hT3⟩
      case rest =>
        obtain ⟨T, rfl, rfl, hr3, hbx3⟩ := hcut
        have HR3 := hide hr3
        obtain ⟨d0, d1⟩ := cells2 hbx3
        clear hr3 hbx3 HR2 k1 k2 k3 k4 l1 l2 l3 l4
        go_wp2_with fail
        refine (put_bad wc (W := W) (t := d) (E 9) 9 (by decide) (fun w6 hb6 => num_size w6 E ((HEW.out.below HR3.out.bel (Nat.le_refl _) (ids_lt hg)).below hb6 (Nat.le_refl _) (fun g hg' => Nat.lt_of_lt_of_le (ids_lt hg g hg') HR3.out.wd.size)))).mono ?_
        rintro e w6 ⟨rfl, hb6⟩
        have HD := hide (show Done w0 W (.returned (.bool true)) w6 from ⟨rfl, _, HR3.out.wd.keep hb6, HR3.out.bel.trans (hb6.mono HR3.out.wd.size)⟩)
        clear hb6
        go_wp2_with fail
        go_ret
        exact HD.out
set_option maxRecDepth 100000 in
set_option maxHeartbeats 2000000 in
theorem joins_17 (w0 w : World) (E : Nat → Addr) (hE : Errs w0 E allErrs) (hg : 25 ≤ w0.heap.size) {W : Nat} {st : Nat → Option SlotR} (hR : Rm w0 W st w) (s t dst n : Int) (lst bv : Value) {a b d : Nat} (hal : a < 4) (hbl : b < 4) (hdl : d < 4) {r : SlotR} (hst : st a = some r) :
    Calls Tryd.prog 92 #[.pointer (some ⟨W, 0, none⟩), OpV 17 s t dst n lst bv, .int .i64 (a : Nat), .int .i64 (b : Nat), .int .i64 (d : Nat)] w fun e w' => Done w0 W e w' := by
  have HEW := hide hE
  have HR := hide hR
  have HST := hide hst
  have hai : (a : Int) < 4 := by omega
  have hbi : (b : Int) < 4 := by omega
  have hdi : (d : Int) < 4 := by omega
  have hsm := (hR.wd.sets a r hal hst).1.small
  clear hE hR hst
  obtain ⟨S1, g1, cap1, N, gr1, m1⟩ := r
  dsimp only at hsm
  go_enter Tryd.func92, Tryd.ntmps92
  go_upto_region 1 with (fail)
  have hbx := (Below.refl w.heap.size w).alloc (Nat.le_refl _) (opBox 17 s t dst n lst bv)
  have hbox : (w.alloc (opBox 17 s t dst n lst bv)).heap[w.heap.size]? = some (opBox 17 s t dst n lst bv) := heap_new rfl _
  have HR1 := hide (HR.out.keep hbx)
  obtain ⟨c0, c1, c2, c3, c4, c5, c6⟩ := cells7 hbox
  clear hbx hbox HR
  generalize w.alloc (opBox 17 s t dst n lst bv) = w1 at *
  obtain ⟨k1, k2, k3, k4⟩ := Rm.full HR1.out hal HST.out
  dsimp only at k1 k2 k3
  cases hst2 : st b with
  | none =>
    obtain ⟨l1, l4⟩ := Rm.void HR1.out hbl hst2
    clear hst2
    have hs1 := (HR1.out.wd.sets a _ hal HST.out).1
    dsimp only at hs1
    have HJ := hide (join_no_58 w1.drew _ _ (E 9) (fun f => mixed_nil w1.drew (hs1.keep ((Below.refl _ _).drew)) f (E 9) ((HEW.out.below HR1.out.bel.drew (Nat.le_refl _) (ids_lt hg)).cell 9 (by decide))))
    clear hs1
    go_upto_region 12 with (fail)
    go_region_held_law (fun w' => w'.cell? ⟨W, a, none⟩ = some (.pointer (some ⟨S1, 0, none⟩)) ∧ w'.cell? ⟨W, b, none⟩ = some (.pointer none)) (exact ⟨k1, l1⟩) ((go_at_call 58; with_reducible refine HJ.out.mono ?_; rintro e w2 ⟨rfl, q, rfl⟩))
    have HR2 := hide (HR1.out.keep (below_drewN (Below.refl w1.heap.size w1) (1 + q)))
    have l42 : (w1.drewN (1 + q)).cell? ⟨W, 12 + b, none⟩ = some (.bool false) := l4
    clear HJ HR1 k1 k2 k3 k4 l1 l4 c0 c1 c2 c3 c4 c5 c6
    generalize w1.drewN (1 + q) = w2 at *
    go_wp2_with fail
    refine (num_size w2 E (HEW.out.below HR2.out.bel (Nat.le_refl _) (ids_lt hg))).mono ?_
    rintro e w3 ⟨rfl, rfl⟩
    have HD := hide (show Done w0 W (.returned (.bool true)) w2 from ⟨rfl, st, HR2.out.wd, HR2.out.bel⟩)
    go_wp2_with fail
    go_ret
    exact HD.out
  | some r2 =>
    have HST2 := hide hst2
    clear hst2
    obtain ⟨S2, g2, cap2, N2, gr2, m2⟩ := r2
    obtain ⟨l1, l2, l3, l4⟩ := Rm.full HR1.out hbl HST2.out
    dsimp only at l1 l2 l3
    by_cases hNN : N = N2
    · subst hNN
      go_upto_region 12 with (fail)
      have hrm := HR1.out.keep (w' := w1.drew) ((Below.refl _ _).drew)
      clear c1 c2 c3 c4 c5 c6
      go_region_held_law (fun w' => w'.cell? ⟨W, a, none⟩ = some (.pointer (some ⟨S1, 0, none⟩)) ∧ w'.cell? ⟨W, b, none⟩ = some (.pointer (some ⟨S2, 0, none⟩))) (exact ⟨(Rm.full (by assumption : Rm w0 W st _) hal HST.out).1, (Rm.full (by assumption : Rm w0 W st _) hbl HST2.out).1⟩) ((go_at_call 58; refine (join_58 _ ((by assumption : Rm w0 W st _).wd.sets a _ hal HST.out).1 ((by assumption : Rm w0 W st _).wd.sets b _ hbl HST2.out).1).mono ?_; rintro e w2 ⟨S, g, rfl, hS, hgg, hs, hb2⟩; have hF := (by assumption : Rm w0 W st _).wd.fresh hS hgg; have hz2 := (by assumption : Rm w0 W st _).wd.size; have hrm2 := Rm.keep (by assumption : Rm w0 W st _) hb2))
      have HR2 := hide hrm2
      have HF := hide (fun i s hi (_ : i ≠ d) hs => hF i s hi hs)
      have HGE := hide (show w0.heap.size ≤ S ∧ w0.heap.size ≤ g from ⟨by omega, by omega⟩)
      have HS2 := hide hs
      clear hrm hrm2 hF hz2 hs hS hgg HR1 k1 k2 k3 k4 l1 l2 l3 l4 hb2 c0
      obtain ⟨k1, k2, k3, k4⟩ := Rm.full HR2.out hal HST.out
      obtain ⟨l1, l2, l3, l4⟩ := Rm.full HR2.out hbl HST2.out
      dsimp only at k1 k2 k3 l1 l2 l3
      go_upto_region 16 with (fail)
      go_cut [14, 15] (fun tv ev wx => ∃ T gr, tv = .pointer (some ⟨T, 0, none⟩) ∧ ev = .int .i64 0 ∧ Rm w0 W st wx ∧ SetAt wx S g (nw N) N (fun i => m1 i && !m2 i) ∧ ROwn wx gr N (fun i => m1 i && !m2 i) ∧ wx.heap[T]? = some (refBox gr N))
      case first =>
        have hrm := HR2.out.keep (w' := w2.drew) ((Below.refl _ _).drew)
        have hs := HS2.out.keep (w' := w2.drew) ((Below.refl _ _).drew)
        have n2 := World.new_ne w2 _ k2
        have hoa := (HR2.out.wd.sets a _ hal HST.out).2.1
        have hob := (HR2.out.wd.sets b _ hbl HST2.out).2.1
        dsimp only at hoa hob
        have hB2 := HR2.out.wd.size
        dsimp only at n2
        go_region_held_law (fun w' => w'.cell? ⟨W, 4 + a * 2, none⟩ = some (.int .i64 (N : Nat)) ∧ w'.cell? ⟨W, 4 + a * 2 + 1, none⟩ = some (.slice (some ⟨gr1, 0, none⟩) N N) ∧ w'.cell? ⟨W, 4 + b * 2, none⟩ = some (.int .i64 (N : Nat)) ∧ w'.cell? ⟨W, 4 + b * 2 + 1, none⟩ = some (.slice (some ⟨gr2, 0, none⟩) N N)) (first | exact ⟨k2, k3, l2, l3⟩ | exact ⟨x2, x3, y2, y3⟩ | (refine ⟨?_, ?_, ?_, ?_⟩ <;> simp [World.cell?_alloc_some, World.cell?_setCell_far, x2, x3, y2, y3, n2, n3]) | (refine ⟨?_, ?_, ?_, ?_⟩ <;> simp [World.cell?_alloc_some, World.cell?_setCell_far, k2, k3, l2, l3, n2])) ((go_at_call 101; refine (ref_join_3 _ (m := m1) (m3 := m2) (by first | exact hoa | exact hoa.keep (((Below.refl _ _).alloc (Nat.le_refl _) _).drew)) (by first | exact hob | exact hob.keep (((Below.refl _ _).alloc (Nat.le_refl _) _).drew)) hsm).mono ?_; rintro e w3 ⟨gr, rfl, hgr, ho, hb3⟩; have hB3 : Below w2.heap.size w2 w3 := (by first | exact below_undrew' hb3 | exact ((Below.refl w2.heap.size w2).alloc (Nat.le_refl _) _).trans ((below_undrew' hb3).mono (by show w2.heap.size ≤ (w2.alloc _).heap.size; rw [World.size_alloc]; omega))); have hrm3 := HR2.out.keep hB3; have hs3 := HS2.out.keep hB3; obtain ⟨x1, x2, x3, x4⟩ := Rm.full hrm3 hal HST.out; obtain ⟨y1, y2, y3, y4⟩ := Rm.full hrm3 hbl HST2.out; dsimp only at x1 x2 x3 y1 y2 y3; have n3 := World.new_ne w3 _ x2; dsimp only at n3; (try (have hT3 : w3.heap[w2.heap.size]? = some noBox := (hb3.block _ (show w2.heap.size < (w2.alloc noBox).heap.size by rw [World.size_alloc]; omega)).trans (heap_new rfl _); obtain ⟨q0, q1⟩ := cells2 hT3; have f0 := free_at hT3 0; have f1 := free_at hT3 1))))
        all_goals
          go_wp2_with fail
          go_meet
          first
            | exact ⟨w3.heap.size, gr, rfl, rfl, hrm3.keep ((Below.refl _ _).alloc (Nat.le_refl _) _), hs3.keep ((Below.refl _ _).alloc (Nat.le_refl _) _), ho.keep ((Below.refl _ _).alloc (Nat.le_refl _) _), heap_new rfl _⟩
            | exact ⟨w2.heap.size, gr, rfl, rfl, hrm3.box hT3 hB2 _ _, set_box hs3 hT3 _ _, own_box ho hT3 _ _, set2 hT3⟩
      case rest =>
        obtain ⟨T, gr, rfl, rfl, hr3, hs3, ho3, hbx3⟩ := hcut
        have HR3 := hide hr3
        have HS3 := hide hs3
        have HO3 := hide ho3
        obtain ⟨d0, d1⟩ := cells2 hbx3
        clear hr3 hs3 ho3 hbx3 HR2 HS2 k1 k2 k3 k4 l1 l2 l3 l4
        go_wp2_with fail
        refine (put_ok wc HR3.out.wd hdl HS3.out HO3.out HGE.out HF.out).mono ?_
        rintro e w6 ⟨rfl, hw6, hb6⟩
        have HD := hide (show Done w0 W (.returned (.bool true)) w6 from ⟨rfl, _, hw6, HR3.out.bel.trans hb6⟩)
        clear hw6 hb6
        go_wp2_with fail
        go_ret
        exact HD.out
    · have HNE := hide hNN
      have hs1 := (HR1.out.wd.sets a _ hal HST.out).1
      have hs2 := (HR1.out.wd.sets b _ hbl HST2.out).1
      dsimp only at hs1 hs2
      have HJ := hide (join_no_58 w1.drew _ _ (E 9) (fun f => mixed_size w1.drew (hs1.keep ((Below.refl _ _).drew)) (hs2.keep ((Below.refl _ _).drew)) HNE.out f (E 9) ((HEW.out.below HR1.out.bel.drew (Nat.le_refl _) (ids_lt hg)).cell 9 (by decide))))
      clear hs1 hs2 hNN
      go_upto_region 12 with (fail)
      go_region_held_law (fun w' => w'.cell? ⟨W, a, none⟩ = some (.pointer (some ⟨S1, 0, none⟩)) ∧ w'.cell? ⟨W, b, none⟩ = some (.pointer (some ⟨S2, 0, none⟩))) (exact ⟨k1, l1⟩) ((go_at_call 58; with_reducible refine HJ.out.mono ?_; rintro e w2 ⟨rfl, q, rfl⟩))
      have HR2 := hide (HR1.out.keep (below_drewN (Below.refl w1.heap.size w1) (1 + q)))
      clear HJ HR1 k1 k2 k3 k4 l1 l2 l3 l4 c0 c1 c2 c3 c4 c5 c6
      generalize w1.drewN (1 + q) = w2 at *
      obtain ⟨k1, k2, k3, k4⟩ := Rm.full HR2.out hal HST.out
      obtain ⟨l1, l2, l3, l4⟩ := Rm.full HR2.out hbl HST2.out
      dsimp only at k1 k2 k3 l1 l2 l3
      go_upto_region 16 with (fail)
      go_cut [14, 15] (fun tv ev wx => ∃ T, tv = .pointer (some ⟨T, 0, none⟩) ∧ ev = .int .i64 9 ∧ Rm w0 W st wx ∧ wx.heap[T]? = some noBox)
      case first =>
        have n2 := World.new_ne w2 _ k2
        have hB2 := HR2.out.wd.size
        dsimp only at n2
        go_region_held_law (fun w' => w'.cell? ⟨W, 4 + a * 2, none⟩ = some (.int .i64 (N : Nat)) ∧ w'.cell? ⟨W, 4 + a * 2 + 1, none⟩ = some (.slice (some ⟨gr1, 0, none⟩) N N) ∧ w'.cell? ⟨W, 4 + b * 2, none⟩ = some (.int .i64 (N2 : Nat)) ∧ w'.cell? ⟨W, 4 + b * 2 + 1, none⟩ = some (.slice (some ⟨gr2, 0, none⟩) N2 N2)) (first | exact ⟨k2, k3, l2, l3⟩ | exact ⟨x2, x3, y2, y3⟩ | (refine ⟨?_, ?_, ?_, ?_⟩ <;> simp [World.cell?_alloc_some, World.cell?_setCell_far, x2, x3, y2, y3, n2, n3]) | (refine ⟨?_, ?_, ?_, ?_⟩ <;> simp [World.cell?_alloc_some, World.cell?_setCell_far, k2, k3, l2, l3, n2])) ((go_at_call 101; refine (ref_join_size _ _ HNE.out).mono ?_; rintro e w3 ⟨rfl, hb3⟩; have hB3 : Below w2.heap.size w2 w3 := (by first | exact below_undrew' hb3 | exact ((Below.refl w2.heap.size w2).alloc (Nat.le_refl _) _).trans ((below_undrew' hb3).mono (by show w2.heap.size ≤ (w2.alloc _).heap.size; rw [World.size_alloc]; omega))); have hrm3 := HR2.out.keep hB3; obtain ⟨x1, x2, x3, x4⟩ := Rm.full hrm3 hal HST.out; obtain ⟨y1, y2, y3, y4⟩ := Rm.full hrm3 hbl HST2.out; dsimp only at x1 x2 x3 y1 y2 y3; have n3 := World.new_ne w3 _ x2; dsimp only at n3; (try (have hT3 : w3.heap[w2.heap.size]? = some noBox := (hb3.block _ (show w2.heap.size < (w2.alloc noBox).heap.size by rw [World.size_alloc]; omega)).trans (heap_new rfl _); obtain ⟨q0, q1⟩ := cells2 hT3; have f0 := free_at hT3 0; have f1 := free_at hT3 1))))
        all_goals
          go_wp2_with fail
          go_meet
          first
            | exact ⟨w3.heap.size, rfl, rfl, hrm3.keep ((Below.refl _ _).alloc (Nat.le_refl _) _), heap_new rfl _⟩
            | exact ⟨w2.heap.size, rfl, rfl, hrm3.box hT3 hB2 _ _, set2 hT3⟩
      case rest =>
        obtain ⟨T, rfl, rfl, hr3, hbx3⟩ := hcut
        have HR3 := hide hr3
        obtain ⟨d0, d1⟩ := cells2 hbx3
        clear hr3 hbx3 HR2 k1 k2 k3 k4 l1 l2 l3 l4
        go_wp2_with fail
        refine (put_bad wc (W := W) (t := d) (E 9) 9 (by decide) (fun w6 hb6 => num_size w6 E ((HEW.out.below HR3.out.bel (Nat.le_refl _) (ids_lt hg)).below hb6 (Nat.le_refl _) (fun g hg' => Nat.lt_of_lt_of_le (ids_lt hg g hg') HR3.out.wd.size)))).mono ?_
        rintro e w6 ⟨rfl, hb6⟩
        have HD := hide (show Done w0 W (.returned (.bool true)) w6 from ⟨rfl, _, HR3.out.wd.keep hb6, HR3.out.bel.trans (hb6.mono HR3.out.wd.size)⟩)
        clear hb6
        go_wp2_with fail
        go_ret
        exact HD.out
set_option maxRecDepth 100000 in
set_option maxHeartbeats 1000000 in
theorem makes_join_15 (w0 w : World) (E : Nat → Addr) (hE : Errs w0 E allErrs) (hT : DeBr w0) (hg : 25 ≤ w0.heap.size) (hb : Below w0.heap.size w0 w) {W : Nat} {st : Nat → Option SlotR} (hW : Wd w w0.heap.size W st) (s t dst n : Int) (lst bv : Value) :
    Calls Tryd.prog 73 #[.pointer (some ⟨W, 0, none⟩), OpV 15 s t dst n lst bv] w fun e w' => Done w0 W e w' := by
  have HEW := hide hE
  have HTW := hide hT
  have HB0 := hide hb
  have HW := hide hW
  have hz := hW.size
  clear hE hT hb hW
  go_enter Tryd.func73, Tryd.ntmps73
  go_upto_region 1 with (fail)
  have hbx := (Below.refl w.heap.size w).alloc (Nat.le_refl _) (opBox 15 s t dst n lst bv)
  have hbox : (w.alloc (opBox 15 s t dst n lst bv)).heap[w.heap.size]? = some (opBox 15 s t dst n lst bv) := heap_new rfl _
  have HW1 := hide (HW.out.keep hbx)
  have HB1 := hide (HB0.out.trans (hbx.mono hz))
  obtain ⟨c0, c1, c2, c3, c4, c5, c6⟩ := cells7 hbox
  have HBOX := hide hbox
  clear hbx hbox HW HB0
  generalize w.alloc (opBox 15 s t dst n lst bv) = w1 at *
  obtain ⟨a, ha⟩ : ∃ a, (s % 4).toNat = a := ⟨_, rfl⟩
  obtain ⟨b, hb'⟩ : ∃ b, (t % 4).toNat = b := ⟨_, rfl⟩
  obtain ⟨d, hd⟩ : ∃ d, (dst % 4).toNat = d := ⟨_, rfl⟩
  have HSA := hide (fun q => slot_any (w1.drewN q) s)
  have HSB := hide (fun q => slot_any (w1.drewN q) t)
  have HSD := hide (fun q => slot_any (w1.drewN q) dst)
  rw [ha] at HSA
  rw [hb'] at HSB
  rw [hd] at HSD
  have hal : a < 4 := by omega
  have hbl : b < 4 := by omega
  have hdl : d < 4 := by omega
  have hai : (a : Int) < 4 := by omega
  have hbi : (b : Int) < 4 := by omega
  have hdi : (d : Int) < 4 := by omega
  clear ha hb' hd
  go_quiet (first | (go_at_call 88; with_reducible exact Calls.quiet_of_same ((HSA.out _).mono (fun _ _ h => ⟨h.1, h.2.symm⟩))) | (go_at_call 88; with_reducible exact Calls.quiet_of_same ((HSB.out _).mono (fun _ _ h => ⟨h.1, h.2.symm⟩))) | (go_at_call 88; with_reducible exact Calls.quiet_of_same ((HSD.out _).mono (fun _ _ h => ⟨h.1, h.2.symm⟩))))
  have HW2 := hide (HW1.out.keep (below_drewN (Below.refl _ _) nq))
  have HB2 := hide (below_drewN HB1.out nq)
  have HBX2 := hide (show (w1.drewN nq).heap[w.heap.size]? = some (opBox 15 s t dst n lst bv) from HBOX.out)
  clear HW1 HB1 HBOX HSA HSB HSD c0 c1 c2 c3 c4 c5 c6
  generalize w1.drewN nq = w2 at *
  obtain ⟨c0, c1, c2, c3, c4, c5, c6⟩ := cells7 HBX2.out
  cases hst : st a with
  | none =>
    obtain ⟨k1, k4⟩ := Rm.void ⟨HW2.out, HB2.out⟩ hal hst
    have HD := hide (show Done w0 W (.returned (.bool true)) w2 from ⟨rfl, st, HW2.out, HB2.out⟩)
    clear hst
    go_wp2_with fail
    go_ret
    exact HD.out
  | some r =>
    have HST := hide hst
    have HSET := hide (HW2.out.sets a r hal hst)
    have hsm := HSET.out.1.small
    clear hst
    obtain ⟨S1, g1, cap1, N, gr1, m1⟩ := r
    obtain ⟨k1, k2, k3, k4⟩ := Rm.full ⟨HW2.out, HB2.out⟩ hal HST.out
    dsimp only at k1 k2 k3 HSET hsm
    clear HSET k1 k2 k3
    go_wp2_with fail
    refine (joins_15 w0 w2 E HEW.out hg ⟨HW2.out, HB2.out⟩ s t dst n lst bv hal hbl hdl HST.out).mono ?_
    rintro e w3 hd
    obtain ⟨rfl, hd2⟩ := hd
    have HD := hide (show Done w0 W (.returned (.bool true)) w3 from ⟨rfl, hd2⟩)
    clear hd2
    go_wp2_with fail
    go_ret
    exact HD.out
set_option maxRecDepth 100000 in
set_option maxHeartbeats 1000000 in
theorem makes_join_16 (w0 w : World) (E : Nat → Addr) (hE : Errs w0 E allErrs) (hT : DeBr w0) (hg : 25 ≤ w0.heap.size) (hb : Below w0.heap.size w0 w) {W : Nat} {st : Nat → Option SlotR} (hW : Wd w w0.heap.size W st) (s t dst n : Int) (lst bv : Value) :
    Calls Tryd.prog 73 #[.pointer (some ⟨W, 0, none⟩), OpV 16 s t dst n lst bv] w fun e w' => Done w0 W e w' := by
  have HEW := hide hE
  have HTW := hide hT
  have HB0 := hide hb
  have HW := hide hW
  have hz := hW.size
  clear hE hT hb hW
  go_enter Tryd.func73, Tryd.ntmps73
  go_upto_region 1 with (fail)
  have hbx := (Below.refl w.heap.size w).alloc (Nat.le_refl _) (opBox 16 s t dst n lst bv)
  have hbox : (w.alloc (opBox 16 s t dst n lst bv)).heap[w.heap.size]? = some (opBox 16 s t dst n lst bv) := heap_new rfl _
  have HW1 := hide (HW.out.keep hbx)
  have HB1 := hide (HB0.out.trans (hbx.mono hz))
  obtain ⟨c0, c1, c2, c3, c4, c5, c6⟩ := cells7 hbox
  have HBOX := hide hbox
  clear hbx hbox HW HB0
  generalize w.alloc (opBox 16 s t dst n lst bv) = w1 at *
  obtain ⟨a, ha⟩ : ∃ a, (s % 4).toNat = a := ⟨_, rfl⟩
  obtain ⟨b, hb'⟩ : ∃ b, (t % 4).toNat = b := ⟨_, rfl⟩
  obtain ⟨d, hd⟩ : ∃ d, (dst % 4).toNat = d := ⟨_, rfl⟩
  have HSA := hide (fun q => slot_any (w1.drewN q) s)
  have HSB := hide (fun q => slot_any (w1.drewN q) t)
  have HSD := hide (fun q => slot_any (w1.drewN q) dst)
  rw [ha] at HSA
  rw [hb'] at HSB
  rw [hd] at HSD
  have hal : a < 4 := by omega
  have hbl : b < 4 := by omega
  have hdl : d < 4 := by omega
  have hai : (a : Int) < 4 := by omega
  have hbi : (b : Int) < 4 := by omega
  have hdi : (d : Int) < 4 := by omega
  clear ha hb' hd
  go_quiet (first | (go_at_call 88; with_reducible exact Calls.quiet_of_same ((HSA.out _).mono (fun _ _ h => ⟨h.1, h.2.symm⟩))) | (go_at_call 88; with_reducible exact Calls.quiet_of_same ((HSB.out _).mono (fun _ _ h => ⟨h.1, h.2.symm⟩))) | (go_at_call 88; with_reducible exact Calls.quiet_of_same ((HSD.out _).mono (fun _ _ h => ⟨h.1, h.2.symm⟩))))
  have HW2 := hide (HW1.out.keep (below_drewN (Below.refl _ _) nq))
  have HB2 := hide (below_drewN HB1.out nq)
  have HBX2 := hide (show (w1.drewN nq).heap[w.heap.size]? = some (opBox 16 s t dst n lst bv) from HBOX.out)
  clear HW1 HB1 HBOX HSA HSB HSD c0 c1 c2 c3 c4 c5 c6
  generalize w1.drewN nq = w2 at *
  obtain ⟨c0, c1, c2, c3, c4, c5, c6⟩ := cells7 HBX2.out
  cases hst : st a with
  | none =>
    obtain ⟨k1, k4⟩ := Rm.void ⟨HW2.out, HB2.out⟩ hal hst
    have HD := hide (show Done w0 W (.returned (.bool true)) w2 from ⟨rfl, st, HW2.out, HB2.out⟩)
    clear hst
    go_wp2_with fail
    go_ret
    exact HD.out
  | some r =>
    have HST := hide hst
    have HSET := hide (HW2.out.sets a r hal hst)
    have hsm := HSET.out.1.small
    clear hst
    obtain ⟨S1, g1, cap1, N, gr1, m1⟩ := r
    obtain ⟨k1, k2, k3, k4⟩ := Rm.full ⟨HW2.out, HB2.out⟩ hal HST.out
    dsimp only at k1 k2 k3 HSET hsm
    clear HSET k1 k2 k3
    go_wp2_with fail
    refine (joins_16 w0 w2 E HEW.out hg ⟨HW2.out, HB2.out⟩ s t dst n lst bv hal hbl hdl HST.out).mono ?_
    rintro e w3 hd
    obtain ⟨rfl, hd2⟩ := hd
    have HD := hide (show Done w0 W (.returned (.bool true)) w3 from ⟨rfl, hd2⟩)
    clear hd2
    go_wp2_with fail
    go_ret
    exact HD.out
set_option maxRecDepth 100000 in
set_option maxHeartbeats 1000000 in
theorem makes_join_17 (w0 w : World) (E : Nat → Addr) (hE : Errs w0 E allErrs) (hT : DeBr w0) (hg : 25 ≤ w0.heap.size) (hb : Below w0.heap.size w0 w) {W : Nat} {st : Nat → Option SlotR} (hW : Wd w w0.heap.size W st) (s t dst n : Int) (lst bv : Value) :
    Calls Tryd.prog 73 #[.pointer (some ⟨W, 0, none⟩), OpV 17 s t dst n lst bv] w fun e w' => Done w0 W e w' := by
  have HEW := hide hE
  have HTW := hide hT
  have HB0 := hide hb
  have HW := hide hW
  have hz := hW.size
  clear hE hT hb hW
  go_enter Tryd.func73, Tryd.ntmps73
  go_upto_region 1 with (fail)
  have hbx := (Below.refl w.heap.size w).alloc (Nat.le_refl _) (opBox 17 s t dst n lst bv)
  have hbox : (w.alloc (opBox 17 s t dst n lst bv)).heap[w.heap.size]? = some (opBox 17 s t dst n lst bv) := heap_new rfl _
  have HW1 := hide (HW.out.keep hbx)
  have HB1 := hide (HB0.out.trans (hbx.mono hz))
  obtain ⟨c0, c1, c2, c3, c4, c5, c6⟩ := cells7 hbox
  have HBOX := hide hbox
  clear hbx hbox HW HB0
  generalize w.alloc (opBox 17 s t dst n lst bv) = w1 at *
  obtain ⟨a, ha⟩ : ∃ a, (s % 4).toNat = a := ⟨_, rfl⟩
  obtain ⟨b, hb'⟩ : ∃ b, (t % 4).toNat = b := ⟨_, rfl⟩
  obtain ⟨d, hd⟩ : ∃ d, (dst % 4).toNat = d := ⟨_, rfl⟩
  have HSA := hide (fun q => slot_any (w1.drewN q) s)
  have HSB := hide (fun q => slot_any (w1.drewN q) t)
  have HSD := hide (fun q => slot_any (w1.drewN q) dst)
  rw [ha] at HSA
  rw [hb'] at HSB
  rw [hd] at HSD
  have hal : a < 4 := by omega
  have hbl : b < 4 := by omega
  have hdl : d < 4 := by omega
  have hai : (a : Int) < 4 := by omega
  have hbi : (b : Int) < 4 := by omega
  have hdi : (d : Int) < 4 := by omega
  clear ha hb' hd
  go_quiet (first | (go_at_call 88; with_reducible exact Calls.quiet_of_same ((HSA.out _).mono (fun _ _ h => ⟨h.1, h.2.symm⟩))) | (go_at_call 88; with_reducible exact Calls.quiet_of_same ((HSB.out _).mono (fun _ _ h => ⟨h.1, h.2.symm⟩))) | (go_at_call 88; with_reducible exact Calls.quiet_of_same ((HSD.out _).mono (fun _ _ h => ⟨h.1, h.2.symm⟩))))
  have HW2 := hide (HW1.out.keep (below_drewN (Below.refl _ _) nq))
  have HB2 := hide (below_drewN HB1.out nq)
  have HBX2 := hide (show (w1.drewN nq).heap[w.heap.size]? = some (opBox 17 s t dst n lst bv) from HBOX.out)
  clear HW1 HB1 HBOX HSA HSB HSD c0 c1 c2 c3 c4 c5 c6
  generalize w1.drewN nq = w2 at *
  obtain ⟨c0, c1, c2, c3, c4, c5, c6⟩ := cells7 HBX2.out
  cases hst : st a with
  | none =>
    obtain ⟨k1, k4⟩ := Rm.void ⟨HW2.out, HB2.out⟩ hal hst
    have HD := hide (show Done w0 W (.returned (.bool true)) w2 from ⟨rfl, st, HW2.out, HB2.out⟩)
    clear hst
    go_wp2_with fail
    go_ret
    exact HD.out
  | some r =>
    have HST := hide hst
    have HSET := hide (HW2.out.sets a r hal hst)
    have hsm := HSET.out.1.small
    clear hst
    obtain ⟨S1, g1, cap1, N, gr1, m1⟩ := r
    obtain ⟨k1, k2, k3, k4⟩ := Rm.full ⟨HW2.out, HB2.out⟩ hal HST.out
    dsimp only at k1 k2 k3 HSET hsm
    clear HSET k1 k2 k3
    go_wp2_with fail
    refine (joins_17 w0 w2 E HEW.out hg ⟨HW2.out, HB2.out⟩ s t dst n lst bv hal hbl hdl HST.out).mono ?_
    rintro e w3 hd
    obtain ⟨rfl, hd2⟩ := hd
    have HD := hide (show Done w0 W (.returned (.bool true)) w3 from ⟨rfl, hd2⟩)
    clear hd2
    go_wp2_with fail
    go_ret
    exact HD.out
end Go.Proofs.YtmkbbekeimnajaaDoor
