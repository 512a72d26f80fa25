/- texts of this proof, one behind the other: Waw -/
import Derived.Test.YtmkbbekeimnajaaDoorMMemory0
import Derived.Test.YtmkbbekeimnajaaDoorMMemory1
import Derived.Test.YtmkbbekeimnajaaDoorMMemory2
import Derived.Test.YtmkbbekeimnajaaDoorMMemory3
import Derived.Test.YtmkbbekeimnajaaDoorMMemory4
import Derived.Test.YtmkbbekeimnajaaDoorMMemory5
import Derived.Test.YtmkbbekeimnajaaDoorMMemory6
import Derived.Test.YtmkbbekeimnajaaDoorMMemory7
import Derived.Test.YtmkbbekeimnajaaDoorMMemory8
import Derived.Test.YtmkbbekeimnajaaDoorMMemory9
import Derived.Test.YtmkbbekeimnajaaDoorMMemory10
import Derived.Test.YtmkbbekeimnajaaDoorMMemory11
import Derived.Test.YtmkbbekeimnajaaDoorMMemory12
import Derived.Test.YtmkbbekeimnajaaDoorMMemory13
import Derived.Test.YtmkbbekeimnajaaDoorMMemory14
import Derived.Test.YtmkbbekeimnajaaDoorMMemory15
import Derived.Deep.RegionHeldLaw
/-! Waw: answers (40) -/
namespace Go.Proofs.YtmkbbekeimnajaaDoor
open Go.RowKit Ds
theorem form_row {w : World} {q B : Nat} {l : List Nat} (h : w.heap[q]? = some (.cells (u8s l).toArray 5 (0, 0))) (hB : B ≤ q) (hl : l.length ≤ 140000) : w.ownsRow B 5 1 (.slice (some ⟨q, 0, none⟩) l.length l.length) l.length (u8s l) := by
  have h1 := row_of_heap (B := B) h hB (by rw [u8s_len]; omega)
  rw [u8s_len] at h1
  exact h1
def nilV : Nat → Value := fun _ => .slice none 0 0
theorem tot_start {w w4 : World} {T0 S g cap n gr : Nat} {m : Nat → Bool} {v1 v2 v3 : Value} {xs1 : List Int} {xs2 : List (Nat × Nat)} {xs3 : List Nat} (h : RdC w T0 S g cap gr n m w4)
    (o1 : w4.ownsRow w.heap.size 3 1 v1 xs1.length (intCells xs1)) (o2 : w4.ownsRow w.heap.size 43 2 v2 xs2.length (runCells xs2)) (o3 : w4.ownsRow w.heap.size 5 1 v3 xs3.length (u8s xs3)) :
    Tot w S g cap n m v1 v2 v3 xs1 xs2 xs3 w4.heap.size (w4.heap.size + 1) (w4.heap.size + 1 + 1) nilV nilV nilV (fun _ => intCells xs1) (fun _ => runCells xs2) (fun _ => u8s xs3) 0
      (((w4.alloc (.cells #[.slice none 0 0, .slice none 0 0, .slice none 0 0] 115)).alloc (.cells #[.slice none 0 0, .slice none 0 0, .slice none 0 0] 116)).alloc (.cells #[.slice none 0 0, .slice none 0 0, .slice none 0 0] 117)) := by
  have hz := h.below.size
  have hb : Below w4.heap.size w4 (((w4.alloc (.cells #[.slice none 0 0, .slice none 0 0, .slice none 0 0] 115)).alloc (.cells #[.slice none 0 0, .slice none 0 0, .slice none 0 0] 116)).alloc (.cells #[.slice none 0 0, .slice none 0 0, .slice none 0 0] 117)) :=
    (((Below.refl _ _).alloc (Nat.le_refl _) _).alloc (by rw [World.size_alloc]; omega) _).alloc (by rw [World.size_alloc, World.size_alloc]; omega) _
  refine ⟨h.set.keep hb, by rw [World.size_alloc, World.size_alloc, World.size_alloc]; omega, h.below.trans (hb.mono hz), ?_, ?_, ?_, by omega, by omega, by omega⟩
  · exact ⟨heap_old (heap_old (heap_new rfl _) _) _, row_keepTy o1 (keepTy_below hb _), fun k hk => absurd hk (by omega), fun j k hj => absurd hj (by omega), fun k hk => absurd hk (by omega)⟩
  · exact ⟨heap_old (heap_new (World.size_alloc _ _).symm _) _, row_keepTy o2 (keepTy_below hb _), fun k hk => absurd hk (by omega), fun j k hj => absurd hj (by omega), fun k hk => absurd hk (by omega)⟩
  · exact ⟨heap_new (by rw [World.size_alloc, World.size_alloc]) _, row_keepTy o3 (keepTy_below hb _), fun k hk => absurd hk (by omega), fun j k hj => absurd hj (by omega), fun k hk => absurd hk (by omega)⟩
theorem Tot.stores {w w7 : World} {S g cap n A1 A2 A3 K : Nat} {m : Nat → Bool} {v1 v2 v3 : Value} {xs1 : List Int} {xs2 : List (Nat × Nat)} {xs3 : List Nat} {V1 V2 V3 : Nat → Value} {C1 C2 C3 : Nat → List Value} {k : Nat}
    (h : Tot w S g cap n m v1 v2 v3 xs1 xs2 xs3 A1 A2 A3 V1 V2 V3 C1 C2 C3 K w7) (hk : k < 3) (u1 u2 : Value) :
    (w7.cell? ⟨A1, k, none⟩ = some (V1 k) ∧ w7.frozen? ⟨A1, k, none⟩ = false) ∧ ((w7.setCell ⟨A1, k, none⟩ u1).cell? ⟨A2, k, none⟩ = some (V2 k) ∧ (w7.setCell ⟨A1, k, none⟩ u1).frozen? ⟨A2, k, none⟩ = false) ∧
      (((w7.setCell ⟨A1, k, none⟩ u1).setCell ⟨A2, k, none⟩ u2).cell? ⟨A3, k, none⟩ = some (V3 k) ∧ ((w7.setCell ⟨A1, k, none⟩ u1).setCell ⟨A2, k, none⟩ u2).frozen? ⟨A3, k, none⟩ = false) := by
  have a1 := h.t1.arr
  have a2' := keepTy_at (i := k) (p := A1) a1 (t := 116) (by decide) u1 _ _ _ h.t2.arr
  exact ⟨h.t1.hdr hk, (h.t2.far (i := k) a1 (by decide) (by decide) u1).hdr hk, ((h.t3.far (i := k) a1 (by decide) (by decide) u1).far (i := k) a2' (by decide) (by decide) u2).hdr hk⟩
theorem Tot.rs {w wr : World} {S g cap n A1 A2 A3 K : Nat} {m : Nat → Bool} {v1 v2 v3 : Value} {xs1 : List Int} {xs2 : List (Nat × Nat)} {xs3 : List Nat} {V1 V2 V3 : Nat → Value} {C1 C2 C3 : Nat → List Value}
    (h : Tot w S g cap n m v1 v2 v3 xs1 xs2 xs3 A1 A2 A3 V1 V2 V3 C1 C2 C3 K wr) (hT : DeBr w) (hg : 15 < w.heap.size) : Rs1 wr S g cap n m wr :=
  ⟨h.set, debr_below hT h.below hg, Nat.lt_of_lt_of_le hg h.base, Below.refl _ _⟩
def X1 (k : Nat) : Value := .int .i64 (-1 - (k : Int))
def X3 (k : Nat) : Value := .int .u8 ((241 + k : Nat) : Int)
set_option maxRecDepth 100000 in
set_option maxHeartbeats 16000000 in
theorem answers_any (w : World) (hT : DeBr w) (hg : 15 < w.heap.size) {S g cap n gr : Nat} {m : Nat → Bool} (h : SetAt w S g cap n m) (hr : ROwn w gr n m) :
    Calls Tryd.prog 40 #[.pointer (some ⟨S, 0, none⟩), RefV gr n] w fun e w' => e = .returned (.bool true) ∧ Below w.heap.size w w' := by
  have hn := h.small
  have HS := hide h
  have HT := hide hT
  have HR := hide hr
  obtain ⟨xs1, e1⟩ : ∃ xs, mI m n = xs := ⟨_, rfl⟩
  obtain ⟨xs2, e2⟩ : ∃ xs, runs (Ds.mem m n) = xs := ⟨_, rfl⟩
  obtain ⟨xs3, e3⟩ : ∃ xs, encS n m = xs := ⟨_, rfl⟩
  have hcl := cnt_le m n
  have hx1 : xs1.length ≤ 1048576 := by rw [← e1, mI_len]; omega
  have hx2 : xs2.length ≤ 1048576 := by rw [← e2]; have := runs_len _ (Ds.mem m n) rfl; unfold cnt at hcl; omega
  have hx3 : xs3.length ≤ 140000 := by rw [← e3]; exact encS_len hn
  have hlt3 : ∀ x ∈ xs3, x < 256 := by rw [← e3]; exact encS_lt hn
  have HC1 := hide (show cnt m n = xs1.length by rw [← e1, mI_len])
  have E1 := hide e1
  have E2 := hide e2
  have E3 := hide e3
  have HL3 := hide hlt3
  clear h hT hr e1 e2 e3 hcl hlt3
  go_enter Tryd.func40, Tryd.ntmps40
  go_upto_region 1 with (fail)
  have hbx := (Below.refl w.heap.size w).alloc (Nat.le_refl _) (refBox gr n)
  obtain ⟨T0, hT0⟩ : ∃ T, w.heap.size = T := ⟨_, rfl⟩
  have hbox : (w.alloc (refBox gr n)).heap[T0]? = some (refBox gr n) := heap_new hT0.symm _
  have HRD := hide (show RdC w T0 S g cap gr n m (w.alloc (refBox gr n)) from ⟨HS.out.keep hbx, HR.out.keep hbx, hbox, debr_below HT.out hbx hg, Nat.lt_of_lt_of_le hg hbx.size, hbx⟩)
  rw [show (⟨w.heap.size, 0, none⟩ : Addr) = ⟨T0, 0, none⟩ from by rw [hT0]]
  clear hbx hbox hT0
  generalize w.alloc (refBox gr n) = w1 at *
  have hst1 := HRD.out.keep (w' := w1.drew) ((Below.refl _ _).drew)
  clear HRD HS HR
  go_region_held_law (fun w' => w'.cell? ⟨T0, 0, none⟩ = some (.int .i64 (n : Nat)) ∧ w'.cell? ⟨T0, 1, none⟩ = some (.slice (some ⟨gr, 0, none⟩) n n)) (exact cells2 (by assumption : RdC w T0 S g cap gr n m _).box) (first
    | (go_at_call 33; with_reducible refine (ref_members _ (by assumption : RdC w T0 S g cap gr n m _).own hn).mono ?_; rintro e w2 ⟨v1, rfl, ho1, hb2⟩; have hst2 := RdC.keep (by assumption : RdC w T0 S g cap gr n m _) hb2)
    | (go_at_call 70; with_reducible refine (ref_runs _ (by assumption : RdC w T0 S g cap gr n m _).own hn).mono ?_; rintro e w3 ⟨v2, rfl, ho2, hb3⟩; have hst3 := RdC.keep (by assumption : RdC w T0 S g cap gr n m _) hb3; have ho1 := row_keepTy ho1 (keepTy_below hb3 3))
    | (go_at_call 61; with_reducible refine (ref_encode _ (by assumption : RdC w T0 S g cap gr n m _).own hn).mono ?_; rintro e w4 ⟨v3, rfl, ho3, hb4⟩; have hst4 := RdC.keep (by assumption : RdC w T0 S g cap gr n m _) hb4; have ho1 := row_keepTy ho1 (keepTy_below hb4 3); have ho2 := row_keepTy ho2 (keepTy_below hb4 43)))
  have z2 := hst2.below.size
  have z3 := hst3.below.size
  have z4 := hst4.below.size
  rw [HC1.out, E1.out] at ho1
  rw [E2.out] at ho2
  rw [E3.out] at ho3
  have o1 := row_base ho1 (B := w.heap.size) hst1.below.size
  have o2 := row_base ho2 (B := w.heap.size) hst2.below.size
  have o3 := row_base ho3 (B := w.heap.size) hst3.below.size
  obtain ⟨a1, k1, rfl⟩ := row_shape o1
  obtain ⟨a2, k2, rfl⟩ := row_shape o2
  obtain ⟨a3, k3, rfl⟩ := row_shape o3
  have HST := hide (And.intro hst4 (And.intro o1 (And.intro o2 o3)))
  clear hst1 hst2 hst3 hst4 ho1 ho2 ho3 o1 o2 o3 z2 z3
  clear hb2 hb3 hb4
  obtain ⟨hst4, o1, o2, o3⟩ := HST.out
  have HT0 := hide (tot_start hst4 o1 o2 o3)
  clear hst4 o1 o2 o3 HST
  go_upto_region 5 with (fail)
  obtain ⟨A1, hA1⟩ : ∃ A, w4.heap.size = A := ⟨_, rfl⟩
  obtain ⟨A2, hA2⟩ : ∃ A, w4.heap.size + 1 = A := ⟨_, rfl⟩
  obtain ⟨A3, hA3⟩ : ∃ A, w4.heap.size + 1 + 1 = A := ⟨_, rfl⟩
  rw [hA3, hA2, hA1] at HT0
  rw [show (⟨w4.heap.size + 1 + 1, 0, none⟩ : Addr) = ⟨A3, 0, none⟩ from by rw [hA3], show (⟨w4.heap.size + 1, 0, none⟩ : Addr) = ⟨A2, 0, none⟩ from by rw [hA2], show (⟨w4.heap.size, 0, none⟩ : Addr) = ⟨A1, 0, none⟩ from by rw [hA1]]
  clear hA1 hA2 hA3 z4
  generalize ((w4.alloc (.cells #[.slice none 0 0, .slice none 0 0, .slice none 0 0] 115)).alloc (.cells #[.slice none 0 0, .slice none 0 0, .slice none 0 0] 116)).alloc (.cells #[.slice none 0 0, .slice none 0 0, .slice none 0 0] 117) = w5 at *
  go_wp2_with fail
  go_loopw [11] (fun o wr => ∃ (k : Nat) (V1 V2 V3 : Nat → Value), o = .int .i64 (k : Nat) ∧ k ≤ 3 ∧ Tot w S g cap n m (.slice a1 xs1.length k1) (.slice a2 xs2.length k2) (.slice a3 xs3.length k3) xs1 xs2 xs3 A1 A2 A3 V1 V2 V3 (fun _ => intCells xs1) (fun _ => runCells xs2) (fun _ => u8s xs3) k wr) (fun o _ => 3 - (intOf o).toNat)
  case atStart => exact ⟨0, _, _, _, rfl, by omega, HT0.out⟩
  case round =>
    obtain ⟨k, V1, V2, V3, rfl, hk3, ht⟩ := hrel
    have HTk := hide ht
    clear ht HT0
    by_cases hlk : k < 3
    · have hkk : (k : Int) < 3 := by omega
      have hst5 := (HTk.out.rs HT.out hg).keep (w' := wr.drew) ((Below.refl _ _).drew)
      go_upto_region 8 with (fail)
      go_region_held_law (fun _ => True) (exact trivial) (first
        | (go_at_call 13; with_reducible refine (members_any _ (by assumption : Rs1 wr S g cap n m _).set (by assumption : Rs1 wr S g cap n m _).deb (by assumption : Rs1 wr S g cap n m _).size).mono ?_; rintro e w5 ⟨u1, rfl, hu1, hb5⟩; rw [HC1.out, E1.out] at hu1; have hu1 := row_base hu1 (B := wr.heap.size) (by assumption : Rs1 wr S g cap n m _).below.size; obtain ⟨p1, q1, rfl⟩ := row_shape hu1; have hst6 := Rs1.keep (by assumption : Rs1 wr S g cap n m _) hb5; clear hb5)
        | (go_at_call 22; with_reducible refine (runs_any _ (by assumption : Rs1 wr S g cap n m _).set (by assumption : Rs1 wr S g cap n m _).deb (by assumption : Rs1 wr S g cap n m _).size).mono ?_; rintro e w6 ⟨u2, rfl, hu2, hb6⟩; rw [E2.out] at hu2; have hu2 := row_base hu2 (B := wr.heap.size) (by assumption : Rs1 wr S g cap n m _).below.size; obtain ⟨p2, q2, rfl⟩ := row_shape hu2; have hst7 := Rs1.keep (by assumption : Rs1 wr S g cap n m _) hb6; have hu1 := row_keepTy hu1 (keepTy_below hb6 3); clear hb6)
        | (go_at_call 24; with_reducible refine (encode_set _ (by assumption : Rs1 wr S g cap n m _).set).mono ?_; rintro e w7 ⟨q3, hq3, rfl, hu3, hb7⟩; rw [E3.out] at hu3 ⊢; have hu3 := form_row (B := wr.heap.size) hu3 (Nat.le_trans (by assumption : Rs1 wr S g cap n m _).below.size hq3) hx3; have hst8 := Rs1.keep (by assumption : Rs1 wr S g cap n m _) hb7; have hu1 := row_keepTy hu1 (keepTy_below hb7 3); have hu2 := row_keepTy hu2 (keepTy_below hb7 43); obtain ⟨⟨f1, f2⟩, ⟨f3, f4⟩, f5, f6⟩ := (HTk.out.keep hst8.below).stores hlk (.slice p1 xs1.length q1) (.slice p2 xs2.length q2); clear hb7 hq3))
      have HTn := hide (HTk.out.add hlk hst8.below hu1 hu2 hu3 (Nat.le_refl _) (Nat.le_refl _) (Nat.le_refl _))
      clear hst5 hst6 hst7 hst8 hu1 hu2 hu3 f1 f2 f3 f4 f5 f6
      go_wp2_with fail
      exact ⟨⟨k + 1, _, _, _, vi (by push_cast; omega), by omega, HTn.out⟩, by simp only [intOf]; omega⟩
    · have hkk : ¬ (k : Int) < 3 := by omega
      have hk : k = 3 := by omega
      have HT3 := hide (show Tot w S g cap n m (.slice a1 xs1.length k1) (.slice a2 xs2.length k2) (.slice a3 xs3.length k3) xs1 xs2 xs3 A1 A2 A3 V1 V2 V3 (fun _ => intCells xs1) (fun _ => runCells xs2) (fun _ => u8s xs3) 3 wr from by rw [← hk]; exact HTk.out)
      clear hk HTk
      go_wp2_with fail
      go_loopw [12] (fun o wr => ∃ (k : Nat), o = .int .i64 (k : Nat) ∧ k ≤ 3 ∧ Tot w S g cap n m (.slice a1 xs1.length k1) (.slice a2 xs2.length k2) (.slice a3 xs3.length k3) xs1 xs2 xs3 A1 A2 A3 V1 V2 V3 (fun _ => intCells xs1) (fun _ => runCells xs2) (fun _ => u8s xs3) 3 wr) (fun o _ => 3 - (intOf o).toNat)
      case atStart => exact ⟨0, rfl, by omega, HT3.out⟩
      case round =>
        obtain ⟨k, rfl, hk3, ht⟩ := hrel
        have HTk := hide ht
        clear ht HT3
        by_cases hlk : k < 3
        · have hkk : (k : Int) < 3 := by omega
          obtain ⟨p1, q1, hV1⟩ := row_shape (HTk.out.t1.row k hlk)
          obtain ⟨p2, q2, hV2⟩ := row_shape (HTk.out.t2.row k hlk)
          obtain ⟨p3, q3, hV3⟩ := row_shape (HTk.out.t3.row k hlk)
          have HV1 := hide hV1
          have HV2 := hide hV2
          have HV3 := hide hV3
          have hc1 := (HTk.out.t1.hdr hlk).1
          rw [hV1] at hc1
          have HI1 := hide (ints_own (HTk.out.t1.row k hlk))
          rw [hV1] at HI1
          clear hV1 hV2 hV3
          go_wp2_with fail
          refine (ints_equal wr p1 a1 q1 k1 xs1 xs1 HI1.out (ints_own HTk.out.t1.ref) (by omega)).mono ?_
          rintro e w6 ⟨rfl, d1, rfl⟩
          have HT6 := hide (HTk.out.keep (below_drewN (Below.refl _ _) d1))
          clear HI1 HTk hc1
          generalize wr.drewN d1 = w6 at *
          have hc2 := (HT6.out.t2.hdr hlk).1
          rw [HV2.out] at hc2
          have HR2 := hide (HT6.out.t2.row k hlk)
          rw [HV2.out] at HR2
          go_wp2_with fail
          refine (runs_equal w6 _ _ _ _ xs2 xs2 HR2.out HT6.out.t2.ref (by omega)).mono ?_
          rintro e w7 ⟨rfl, d2, rfl⟩
          have HT7 := hide (HT6.out.keep (below_drewN (Below.refl _ _) d2))
          clear HR2 HT6 hc2
          generalize w6.drewN d2 = w7 at *
          have hc3 := (HT7.out.t3.hdr hlk).1
          rw [HV3.out] at hc3
          have HR3 := hide (own_src (HT7.out.t3.row k hlk) HL3.out)
          rw [HV3.out] at HR3
          go_wp2_with fail
          refine (bytes_equal w7 _ _ xs3 xs3 HR3.out (own_src HT7.out.t3.ref HL3.out)).mono ?_
          rintro e w8 ⟨rfl, rfl⟩
          go_wp2_with fail
          exact ⟨⟨k + 1, vi (by push_cast; omega), by omega, HT7.out⟩, by simp only [intOf]; omega⟩
        · have hkk : ¬ (k : Int) < 3 := by omega
          have HT4 := hide (show Tot w S g cap n m (.slice a1 xs1.length k1) (.slice a2 xs2.length k2) (.slice a3 xs3.length k3) xs1 xs2 xs3 A1 A2 A3 V1 V2 V3 (mkC X1 (intCells xs1) 0 0) (mkC X1 (runCells xs2) 0 0) (mkC X3 (u8s xs3) 0 0) 3 wr from by rw [mkC_zero, mkC_zero, mkC_zero]; exact HTk.out)
          have HN1 := hide (intCells_len xs1)
          have HN2 := hide (runCells_len xs2)
          have HN3 := hide (u8s_len xs3)
          clear HTk
          go_wp2_with fail
          go_loopw [13] (fun o wr => ∃ (k : Nat), o = .int .i64 (k : Nat) ∧ k ≤ 3 ∧ Tot w S g cap n m (.slice a1 xs1.length k1) (.slice a2 xs2.length k2) (.slice a3 xs3.length k3) xs1 xs2 xs3 A1 A2 A3 V1 V2 V3 (mkC X1 (intCells xs1) k 0) (mkC X1 (runCells xs2) k 0) (mkC X3 (u8s xs3) k 0) 3 wr) (fun o _ => 3 - (intOf o).toNat)
          case atStart => exact ⟨0, rfl, by omega, HT4.out⟩
          case round =>
            obtain ⟨k, rfl, hk3, ht⟩ := hrel
            have HTk := hide ht
            clear ht HT4
            by_cases hlk : k < 3
            · have hkk : (k : Int) < 3 := by omega
              obtain ⟨p1, q1, hV1⟩ := row_shape (HTk.out.t1.row k hlk)
              obtain ⟨p2, q2, hV2⟩ := row_shape (HTk.out.t2.row k hlk)
              obtain ⟨p3, q3, hV3⟩ := row_shape (HTk.out.t3.row k hlk)
              have HV1 := hide hV1
              have HV2 := hide hV2
              have HV3 := hide hV3
              have hc1 := (HTk.out.t1.hdr hlk).1
              rw [hV1] at hc1
              clear hV1 hV2 hV3
              have hw1 : wrap64 (-1 - (k : Int)) = -1 - (k : Int) := by unfold wrap64; omega
              go_wp2_with fail
              go_loopw [85] (fun o wr => ∃ (i : Nat), o = .int .i64 (i : Nat) ∧ i ≤ xs1.length ∧ Tot w S g cap n m (.slice a1 xs1.length k1) (.slice a2 xs2.length k2) (.slice a3 xs3.length k3) xs1 xs2 xs3 A1 A2 A3 V1 V2 V3 (mkC X1 (intCells xs1) k i) (mkC X1 (runCells xs2) k 0) (mkC X3 (u8s xs3) k 0) 3 wr) (fun o _ => xs1.length - (intOf o).toNat)
              case atStart => exact ⟨0, rfl, by omega, HTk.out⟩
              case round =>
                obtain ⟨i, rfl, hi, ht⟩ := hrel
                have HTi := hide ht
                clear ht HTk hc1
                by_cases hli : i < xs1.length
                · have hii : (i : Int) < (xs1.length : Int) := by omega
                  have hrow := HTi.out.t1.row k hlk
                  rw [HV1.out, mkC_at] at hrow
                  obtain ⟨gq, cq, he, hcq1, hcq2, _⟩ := row_at hrow (by omega)
                  simp only [Value.slice.injEq] at he
                  obtain ⟨rfl, _, rfl⟩ := he
                  obtain ⟨y, hy⟩ := mk_cell (X1 k) (i := i) (j := i) (L := intCells xs1) (by rw [HN1.out]; exact hli)
                  obtain ⟨hcy, hfy⟩ := row_cell hrow hy
                  have hc1 := (HTi.out.t1.hdr hlk).1
                  rw [HV1.out] at hc1
                  have HTn := hide (HTi.out.put1 hlk HV1.out i (X1 k))
                  rw [mkC_set X1 (intCells xs1) k (by rw [HN1.out]; exact hli)] at HTn
                  unfold X1 at HTn
                  clear hrow hy
                  go_wp2_with fail
                  exact ⟨⟨i + 1, vi (by push_cast; omega), by omega, HTn.out⟩, by simp only [intOf]; omega⟩
                · have hii : ¬ (i : Int) < (xs1.length : Int) := by omega
                  have HTe := hide (show Tot w S g cap n m (.slice a1 xs1.length k1) (.slice a2 xs2.length k2) (.slice a3 xs3.length k3) xs1 xs2 xs3 A1 A2 A3 V1 V2 V3 (mkC X1 (intCells xs1) (k + 1) 0) (mkC X1 (runCells xs2) k 0) (mkC X3 (u8s xs3) k 0) 3 wr from by
                    have h := HTi.out
                    rw [show i = (intCells xs1).length by rw [HN1.out]; omega, mkC_next] at h
                    exact h)
                  clear HTi
                  have hc2 := (HTe.out.t2.hdr hlk).1
                  rw [HV2.out] at hc2
                  go_wp2_with fail
                  go_loopw [100] (fun o wr => ∃ (i : Nat), o = .int .i64 (i : Nat) ∧ i ≤ xs2.length ∧ Tot w S g cap n m (.slice a1 xs1.length k1) (.slice a2 xs2.length k2) (.slice a3 xs3.length k3) xs1 xs2 xs3 A1 A2 A3 V1 V2 V3 (mkC X1 (intCells xs1) (k + 1) 0) (mkC X1 (runCells xs2) k (i * 2)) (mkC X3 (u8s xs3) k 0) 3 wr) (fun o _ => xs2.length - (intOf o).toNat)
                  case atStart => exact ⟨0, rfl, by omega, HTe.out⟩
                  case round =>
                    obtain ⟨i, rfl, hi, ht⟩ := hrel
                    have HTi := hide ht
                    clear ht HTe hc2
                    by_cases hli : i < xs2.length
                    · have hii : (i : Int) < (xs2.length : Int) := by omega
                      have hrow := HTi.out.t2.row k hlk
                      rw [HV2.out, mkC_at] at hrow
                      obtain ⟨gq, cq, he, hcq1, hcq2, hgq⟩ := row_at hrow (by omega)
                      simp only [Value.slice.injEq] at he
                      obtain ⟨rfl, _, rfl⟩ := he
                      obtain ⟨y, hy⟩ := mk_cell (X1 k) (i := i * 2) (j := i * 2) (L := runCells xs2) (by rw [HN2.out]; omega)
                      obtain ⟨z, hz⟩ := mk_cell (X1 k) (i := i * 2 + 1) (j := i * 2) (L := runCells xs2) (by rw [HN2.out]; omega)
                      obtain ⟨hcy, hfy⟩ := row_cell hrow hy
                      obtain ⟨hcz, hfz⟩ := row_cell hrow hz
                      have hc2 := (HTi.out.t2.hdr hlk).1
                      rw [HV2.out] at hc2
                      have HTn := hide (HTi.out.put2 hlk HV2.out (i * 2) (X1 k))
                      rw [mkC_set X1 (runCells xs2) k (by rw [HN2.out]; omega)] at HTn
                      have HTm := hide (HTn.out.put2 hlk HV2.out (i * 2 + 1) (X1 k))
                      rw [mkC_set X1 (runCells xs2) k (by rw [HN2.out]; omega), show i * 2 + 1 + 1 = (i + 1) * 2 from by omega] at HTm
                      unfold X1 at HTm
                      clear hrow hy hz HTn
                      go_wp2_with fail
                      exact ⟨⟨i + 1, vi (by push_cast; omega), by omega, HTm.out⟩, by simp only [intOf]; omega⟩
                    · have hii : ¬ (i : Int) < (xs2.length : Int) := by omega
                      have HTf := hide (show Tot w S g cap n m (.slice a1 xs1.length k1) (.slice a2 xs2.length k2) (.slice a3 xs3.length k3) xs1 xs2 xs3 A1 A2 A3 V1 V2 V3 (mkC X1 (intCells xs1) (k + 1) 0) (mkC X1 (runCells xs2) (k + 1) 0) (mkC X3 (u8s xs3) k 0) 3 wr from by
                        have h := HTi.out
                        rw [show i * 2 = (runCells xs2).length by rw [HN2.out]; omega, mkC_next] at h
                        exact h)
                      clear HTi
                      have hc3 := (HTf.out.t3.hdr hlk).1
                      rw [HV3.out] at hc3
                      have h241 : IntKind.u8.wrap (241 + (k : Int)) = ((241 + k : Nat) : Int) := by rw [IntKind.wrap_u8]; omega
                      go_wp2_with fail
                      go_loopw [118] (fun o wr => ∃ (i : Nat), o = .int .i64 (i : Nat) ∧ i ≤ xs3.length ∧ Tot w S g cap n m (.slice a1 xs1.length k1) (.slice a2 xs2.length k2) (.slice a3 xs3.length k3) xs1 xs2 xs3 A1 A2 A3 V1 V2 V3 (mkC X1 (intCells xs1) (k + 1) 0) (mkC X1 (runCells xs2) (k + 1) 0) (mkC X3 (u8s xs3) k i) 3 wr) (fun o _ => xs3.length - (intOf o).toNat)
                      case atStart => exact ⟨0, rfl, by omega, HTf.out⟩
                      case round =>
                        obtain ⟨i, rfl, hi, ht⟩ := hrel
                        have HTi := hide ht
                        clear ht HTf hc3
                        by_cases hli : i < xs3.length
                        · have hii : (i : Int) < (xs3.length : Int) := by omega
                          have hrow := HTi.out.t3.row k hlk
                          rw [HV3.out, mkC_at] at hrow
                          obtain ⟨gq, cq, he, hcq1, hcq2, _⟩ := row_at hrow (by omega)
                          simp only [Value.slice.injEq] at he
                          obtain ⟨rfl, _, rfl⟩ := he
                          obtain ⟨y, hy⟩ := mk_cell (X3 k) (i := i) (j := i) (L := u8s xs3) (by rw [HN3.out]; exact hli)
                          obtain ⟨hcy, hfy⟩ := row_cell hrow hy
                          have hc3 := (HTi.out.t3.hdr hlk).1
                          rw [HV3.out] at hc3
                          have HTn := hide (HTi.out.put3 hlk HV3.out i (X3 k))
                          rw [mkC_set X3 (u8s xs3) k (by rw [HN3.out]; exact hli)] at HTn
                          unfold X3 at HTn
                          clear hrow hy
                          go_wp2_with fail
                          exact ⟨⟨i + 1, vi (by push_cast; omega), by omega, HTn.out⟩, by simp only [intOf]; omega⟩
                        · have hii : ¬ (i : Int) < (xs3.length : Int) := by omega
                          have HTg := hide (show Tot w S g cap n m (.slice a1 xs1.length k1) (.slice a2 xs2.length k2) (.slice a3 xs3.length k3) xs1 xs2 xs3 A1 A2 A3 V1 V2 V3 (mkC X1 (intCells xs1) (k + 1) 0) (mkC X1 (runCells xs2) (k + 1) 0) (mkC X3 (u8s xs3) (k + 1) 0) 3 wr from by
                            have h := HTi.out
                            rw [show i = (u8s xs3).length by rw [HN3.out]; omega, mkC_next] at h
                            exact h)
                          clear HTi
                          go_wp2_with fail
                          exact ⟨⟨k + 1, vi (by push_cast; omega), by omega, HTg.out⟩, by simp only [intOf]; omega⟩
            · have hkk : ¬ (k : Int) < 3 := by omega
              have hk : k = 3 := by omega
              have HT5 := hide (show Tot w S g cap n m (.slice a1 xs1.length k1) (.slice a2 xs2.length k2) (.slice a3 xs3.length k3) xs1 xs2 xs3 A1 A2 A3 V1 V2 V3 (mkC X1 (intCells xs1) 3 0) (mkC X1 (runCells xs2) 3 0) (mkC X3 (u8s xs3) 3 0) 3 wr from by have h := HTk.out; rw [hk] at h; exact h)
              clear HTk hk
              go_wp2_with fail
              go_loopw [17] (fun o wr => ∃ (k : Nat), o = .int .i64 (k : Nat) ∧ k ≤ 3 ∧ Tot w S g cap n m (.slice a1 xs1.length k1) (.slice a2 xs2.length k2) (.slice a3 xs3.length k3) xs1 xs2 xs3 A1 A2 A3 V1 V2 V3 (mkC X1 (intCells xs1) 3 0) (mkC X1 (runCells xs2) 3 0) (mkC X3 (u8s xs3) 3 0) 3 wr) (fun o _ => 3 - (intOf o).toNat)
              case atStart => exact ⟨0, rfl, by omega, HT5.out⟩
              case round =>
                obtain ⟨k, rfl, hk3, ht⟩ := hrel
                have HTk := hide ht
                clear ht HT5
                by_cases hlk : k < 3
                · have hkk : (k : Int) < 3 := by omega
                  obtain ⟨p1, q1, hV1⟩ := row_shape (HTk.out.t1.row k hlk)
                  obtain ⟨p2, q2, hV2⟩ := row_shape (HTk.out.t2.row k hlk)
                  obtain ⟨p3, q3, hV3⟩ := row_shape (HTk.out.t3.row k hlk)
                  have hc1 := (HTk.out.t1.hdr hlk).1
                  have hc2 := (HTk.out.t2.hdr hlk).1
                  have hc3 := (HTk.out.t3.hdr hlk).1
                  rw [hV1] at hc1
                  rw [hV2] at hc2
                  rw [hV3] at hc3
                  have HV1 := hide hV1
                  have HV2 := hide hV2
                  have HV3 := hide hV3
                  clear hV1 hV2 hV3
                  go_upto_region 35 with (fail)
                  go_region_held_law (fun w' => w'.cell? ⟨A1, k, none⟩ = some (.slice p1 xs1.length q1) ∧ w'.cell? ⟨A2, k, none⟩ = some (.slice p2 xs2.length q2) ∧ w'.cell? ⟨A3, k, none⟩ = some (.slice p3 xs3.length q3)) (exact ⟨hc1, hc2, hc3⟩) (fail)
                  have HTd := hide (HTk.out.keep ((Below.refl _ _).drew))
                  clear hc1 hc2 hc3 HTk
                  generalize wr.drew = w6 at *
                  have HA0 := hide (show Aps w w6 (V1 k) (V2 k) (V3 k) xs1.length xs2.length xs3.length (mkC X1 (intCells xs1) 3 0 k) (mkC X1 (runCells xs2) 3 0 k) (mkC X3 (u8s xs3) 3 0 k) (V1 k) (V2 k) (V3 k) 0 0 0 w6 from
                    ⟨Ap.start (HTd.out.t1.row k hlk), Ap.start (HTd.out.t2.row k hlk), Ap.start (HTd.out.t3.row k hlk), Foot.refl _ _, HTd.out.base⟩)
                  rw [HV1.out, HV2.out, HV3.out] at HA0
                  have hw2 : wrap64 (-11 - (k : Int)) = -11 - (k : Int) := by unfold wrap64; omega
                  have h201 : IntKind.u8.wrap (201 + (k : Int)) = ((201 + k : Nat) : Int) := by rw [IntKind.wrap_u8]; omega
                  go_wp2_with fail
                  go_loopw [18, 19, 20, 21] (fun a c d o wr => ∃ (i : Nat), o = .int .i64 (i : Nat) ∧ i ≤ 16 ∧ Aps w w6 (.slice p1 xs1.length q1) (.slice p2 xs2.length q2) (.slice p3 xs3.length q3) xs1.length xs2.length xs3.length (mkC X1 (intCells xs1) 3 0 k) (mkC X1 (runCells xs2) 3 0 k) (mkC X3 (u8s xs3) 3 0 k) a c d i i i wr) (fun _ _ _ o _ => 16 - (intOf o).toNat)
                  case atStart => exact ⟨0, rfl, by omega, HA0.out⟩
                  case round =>
                    obtain ⟨i, rfl, hi, ha⟩ := hrel
                    have HA := hide ha
                    clear ha HA0
                    by_cases hli : i < 16
                    · have hii : (i : Int) < 16 := by omega
                      obtain ⟨a', w7, r7, ha7⟩ := HA.out.grow1 (-11 - (k : Int)) (by omega)
                      have HR7 := hide r7
                      have HA7 := hide ha7
                      obtain ⟨c', w8, r8, ha8⟩ := ha7.grow2 (-11 - (k : Int)) 0 (by omega)
                      have HR8 := hide r8
                      have HA8 := hide ha8
                      obtain ⟨d', w9, r9, ha9⟩ := ha8.grow3 ((201 + k : Nat) : Int) (by omega)
                      have HR9 := hide r9
                      have HA9 := hide ha9
                      clear r7 ha7 r8 ha8 r9 ha9 HA
                      go_upto_region 40 with (at_builtin; refine wpList_run 22 _ w7 _ _ _ rfl (.tmp 147) (.tmp 150) rfl rfl rfl HR7.out ?_)
                      go_upto_region 41 with (at_builtin; refine wpList_run 41 _ w8 _ _ _ rfl (.tmp 152) (.tmp 156) rfl rfl rfl HR8.out ?_)
                      go_wp2_with (at_builtin; refine wpList_run 46 _ w9 _ _ _ rfl (.tmp 158) (.tmp 162) rfl rfl rfl HR9.out ?_)
                      exact ⟨⟨i + 1, vi (by push_cast; omega), by omega, HA9.out⟩, by simp only [intOf]; omega⟩
                    · have hii : ¬ (i : Int) < 16 := by omega
                      have HTe := hide (show Tot w S g cap n m (.slice a1 xs1.length k1) (.slice a2 xs2.length k2) (.slice a3 xs3.length k3) xs1 xs2 xs3 A1 A2 A3 V1 V2 V3 (mkC X1 (intCells xs1) 3 0) (mkC X1 (runCells xs2) 3 0) (mkC X3 (u8s xs3) 3 0) 3 wr from by
                        have h := HA.out
                        rw [← HV1.out, ← HV2.out, ← HV3.out] at h
                        exact HTd.out.after hlk h)
                      clear HA HTd
                      go_wp2_with fail
                      exact ⟨⟨k + 1, vi (by push_cast; omega), by omega, HTe.out⟩, by simp only [intOf]; omega⟩
                · have hkk : ¬ (k : Int) < 3 := by omega
                  go_wp2_with fail
                  go_loopw [22] (fun o wr => ∃ (k : Nat), o = .int .i64 (k : Nat) ∧ k ≤ 3 ∧ Tot w S g cap n m (.slice a1 xs1.length k1) (.slice a2 xs2.length k2) (.slice a3 xs3.length k3) xs1 xs2 xs3 A1 A2 A3 V1 V2 V3 (mkC X1 (intCells xs1) 3 0) (mkC X1 (runCells xs2) 3 0) (mkC X3 (u8s xs3) 3 0) 3 wr) (fun o _ => 3 - (intOf o).toNat)
                  case atStart => exact ⟨0, rfl, by omega, HTk.out⟩
                  case round =>
                    obtain ⟨k, rfl, hk3, ht⟩ := hrel
                    clear HTk
                    have HTk := hide ht
                    clear ht
                    by_cases hlk : k < 3
                    · have hkk : (k : Int) < 3 := by omega
                      obtain ⟨p1, q1, hV1⟩ := row_shape (HTk.out.t1.row k hlk)
                      obtain ⟨p2, q2, hV2⟩ := row_shape (HTk.out.t2.row k hlk)
                      obtain ⟨p3, q3, hV3⟩ := row_shape (HTk.out.t3.row k hlk)
                      have hc1 := (HTk.out.t1.hdr hlk).1
                      rw [hV1] at hc1
                      have HV1 := hide hV1
                      have HV2 := hide hV2
                      have HV3 := hide hV3
                      have hw1 : wrap64 (-1 - (k : Int)) = -1 - (k : Int) := by unfold wrap64; omega
                      have h241 : IntKind.u8.wrap (241 + (k : Int)) = ((241 + k : Nat) : Int) := by rw [IntKind.wrap_u8]; omega
                      clear hV1 hV2 hV3
                      go_wp2_with fail
                      go_loopw [172] (fun o wr => ∃ (i : Nat), o = .int .i64 (i : Nat) ∧ i ≤ xs1.length ∧ Tot w S g cap n m (.slice a1 xs1.length k1) (.slice a2 xs2.length k2) (.slice a3 xs3.length k3) xs1 xs2 xs3 A1 A2 A3 V1 V2 V3 (mkC X1 (intCells xs1) 3 0) (mkC X1 (runCells xs2) 3 0) (mkC X3 (u8s xs3) 3 0) 3 wr) (fun o _ => xs1.length - (intOf o).toNat)
                      case atStart => exact ⟨0, rfl, by omega, HTk.out⟩
                      case round =>
                        obtain ⟨i, rfl, hi, ht⟩ := hrel
                        have HTi := hide ht
                        clear ht HTk hc1
                        by_cases hli : i < xs1.length
                        · have hii : (i : Int) < (xs1.length : Int) := by omega
                          have hrow := HTi.out.t1.row k hlk
                          rw [HV1.out, mkC_done _ _ hlk] at hrow
                          obtain ⟨gq, cq, he, hcq1, hcq2, _⟩ := row_at hrow (by omega)
                          simp only [Value.slice.injEq] at he
                          obtain ⟨rfl, _, rfl⟩ := he
                          obtain ⟨hcy, _⟩ := row_cell hrow (mk_get (X1 k) (by rw [HN1.out]; exact hli))
                          unfold X1 at hcy
                          clear hrow
                          go_wp2_with fail
                          exact ⟨⟨i + 1, vi (by push_cast; omega), by omega, HTi.out⟩, by simp only [intOf]; omega⟩
                        · have hii : ¬ (i : Int) < (xs1.length : Int) := by omega
                          have hc2 := (HTi.out.t2.hdr hlk).1
                          rw [HV2.out] at hc2
                          go_wp2_with fail
                          go_loopw [185] (fun o wr => ∃ (i : Nat), o = .int .i64 (i : Nat) ∧ i ≤ xs2.length ∧ Tot w S g cap n m (.slice a1 xs1.length k1) (.slice a2 xs2.length k2) (.slice a3 xs3.length k3) xs1 xs2 xs3 A1 A2 A3 V1 V2 V3 (mkC X1 (intCells xs1) 3 0) (mkC X1 (runCells xs2) 3 0) (mkC X3 (u8s xs3) 3 0) 3 wr) (fun o _ => xs2.length - (intOf o).toNat)
                          case atStart => exact ⟨0, rfl, by omega, HTi.out⟩
                          case round =>
                            obtain ⟨i, rfl, hi, ht⟩ := hrel
                            clear HTi hc2
                            have HTi := hide ht
                            clear ht
                            by_cases hli : i < xs2.length
                            · have hii : (i : Int) < (xs2.length : Int) := by omega
                              have hrow := HTi.out.t2.row k hlk
                              rw [HV2.out, mkC_done _ _ hlk] at hrow
                              obtain ⟨gq, cq, he, hcq1, hcq2, _⟩ := row_at hrow (by omega)
                              simp only [Value.slice.injEq] at he
                              obtain ⟨rfl, _, rfl⟩ := he
                              obtain ⟨hcy, _⟩ := row_cell hrow (mk_get (X1 k) (i := i * 2) (by rw [HN2.out]; omega))
                              obtain ⟨hcz, _⟩ := row_cell hrow (mk_get (X1 k) (i := i * 2 + 1) (by rw [HN2.out]; omega))
                              unfold X1 at hcy hcz
                              have HTn := hide (fun z => HTi.out.keep ((Below.refl wr.heap.size wr).alloc (Nat.le_refl _) (.cells z 43)))
                              clear hrow
                              go_wp2_with fail
                              exact ⟨⟨i + 1, vi (by push_cast; omega), by omega, HTn.out _⟩, by simp only [intOf]; omega⟩
                            · have hii : ¬ (i : Int) < (xs2.length : Int) := by omega
                              have hc3 := (HTi.out.t3.hdr hlk).1
                              rw [HV3.out] at hc3
                              go_wp2_with fail
                              go_loopw [206] (fun o wr => ∃ (i : Nat), o = .int .i64 (i : Nat) ∧ i ≤ xs3.length ∧ Tot w S g cap n m (.slice a1 xs1.length k1) (.slice a2 xs2.length k2) (.slice a3 xs3.length k3) xs1 xs2 xs3 A1 A2 A3 V1 V2 V3 (mkC X1 (intCells xs1) 3 0) (mkC X1 (runCells xs2) 3 0) (mkC X3 (u8s xs3) 3 0) 3 wr) (fun o _ => xs3.length - (intOf o).toNat)
                              case atStart => exact ⟨0, rfl, by omega, HTi.out⟩
                              case round =>
                                obtain ⟨i, rfl, hi, ht⟩ := hrel
                                clear HTi hc3
                                have HTi := hide ht
                                clear ht
                                by_cases hli : i < xs3.length
                                · have hii : (i : Int) < (xs3.length : Int) := by omega
                                  have hrow := HTi.out.t3.row k hlk
                                  rw [HV3.out, mkC_done _ _ hlk] at hrow
                                  obtain ⟨gq, cq, he, hcq1, hcq2, _⟩ := row_at hrow (by omega)
                                  simp only [Value.slice.injEq] at he
                                  obtain ⟨rfl, _, rfl⟩ := he
                                  obtain ⟨hcy, _⟩ := row_cell hrow (mk_get (X3 k) (by rw [HN3.out]; exact hli))
                                  unfold X3 at hcy
                                  clear hrow
                                  go_wp2_with fail
                                  exact ⟨⟨i + 1, vi (by push_cast; omega), by omega, HTi.out⟩, by simp only [intOf]; omega⟩
                                · have hii : ¬ (i : Int) < (xs3.length : Int) := by omega
                                  go_wp2_with fail
                                  exact ⟨⟨k + 1, vi (by push_cast; omega), by omega, HTi.out⟩, by simp only [intOf]; omega⟩
                    · have hkk : ¬ (k : Int) < 3 := by omega
                      have HRS := hide (HTk.out.rs HT.out hg)
                      clear HT
                      go_wp2_with fail
                      refine (members_any wr HRS.out.set HRS.out.deb HRS.out.size).mono ?_
                      rintro e w6 ⟨u1, rfl, hu, hb⟩
                      rw [HC1.out, E1.out] at hu
                      obtain ⟨p1, q1, rfl⟩ := row_shape hu
                      have HI := hide (ints_own hu)
                      have HT6 := hide (HTk.out.keep hb)
                      have HR6 := hide (HRS.out.keep hb)
                      clear hu hb HTk HRS
                      go_wp2_with fail
                      refine (ints_equal w6 p1 a1 q1 k1 xs1 xs1 HI.out (ints_own HT6.out.t1.ref) (by omega)).mono ?_
                      rintro e w7 ⟨rfl, d7, rfl⟩
                      have HT7 := hide (HT6.out.keep (below_drewN (Below.refl _ _) d7))
                      have HR7 := hide (HR6.out.keep (below_drewN (Below.refl _ _) d7))
                      clear HI HT6 HR6
                      generalize w6.drewN d7 = w7 at *
                      go_wp2_with fail
                      refine (runs_any w7 HR7.out.set HR7.out.deb HR7.out.size).mono ?_
                      rintro e w8 ⟨u2, rfl, hu, hb⟩
                      rw [E2.out] at hu
                      obtain ⟨p2, q2, rfl⟩ := row_shape hu
                      have HI := hide hu
                      have HT8 := hide (HT7.out.keep hb)
                      have HR8 := hide (HR7.out.keep hb)
                      clear hu hb HT7 HR7
                      go_wp2_with fail
                      refine (runs_equal w8 _ _ _ _ xs2 xs2 HI.out HT8.out.t2.ref (by omega)).mono ?_
                      rintro e w9 ⟨rfl, d9, rfl⟩
                      have HT9 := hide (HT8.out.keep (below_drewN (Below.refl _ _) d9))
                      have HR9 := hide (HR8.out.keep (below_drewN (Below.refl _ _) d9))
                      clear HI HT8 HR8
                      generalize w8.drewN d9 = w9 at *
                      go_wp2_with fail
                      refine (encode_set w9 HR9.out.set).mono ?_
                      rintro e w10 ⟨q, hq, rfl, hh, hb⟩
                      have HSQ := hide (src_encS hn hh)
                      rw [E3.out] at HSQ ⊢
                      have HT10 := hide (HT9.out.keep hb)
                      clear hq hh hb HT9 HR9
                      go_wp2_with fail
                      refine (bytes_equal w10 _ _ xs3 xs3 HSQ.out (own_src HT10.out.t3.ref HL3.out)).mono ?_
                      rintro e w11 ⟨rfl, rfl⟩
                      have HBE := hide HT10.out.below
                      clear HT10 HSQ
                      go_wp2_with fail
                      go_ret
                      exact ⟨rfl, HBE.out⟩
end Go.Proofs.YtmkbbekeimnajaaDoor
