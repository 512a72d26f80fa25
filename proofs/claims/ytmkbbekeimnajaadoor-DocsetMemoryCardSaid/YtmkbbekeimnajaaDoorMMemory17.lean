/- texts of this proof, one behind the other: Wap WMemory -/
import Derived.Test.YtmkbbekeimnajaaDoorMMemory0
import Derived.Test.YtmkbbekeimnajaaDoorMMemory1
import Derived.Test.YtmkbbekeimnajaaDoorMMemory2
import Derived.Test.YtmkbbekeimnajaaDoorMMemory3
import Derived.Test.YtmkbbekeimnajaaDoorMMemory4
import Derived.Test.YtmkbbekeimnajaaDoorMMemory5
import Derived.Test.YtmkbbekeimnajaaDoorMMemory6
import Derived.Test.YtmkbbekeimnajaaDoorMMemory7
import Derived.Test.YtmkbbekeimnajaaDoorMMemory8
import Derived.Test.YtmkbbekeimnajaaDoorMMemory9
import Derived.Test.YtmkbbekeimnajaaDoorMMemory10
import Derived.Test.YtmkbbekeimnajaaDoorMMemory11
import Derived.Test.YtmkbbekeimnajaaDoorMMemory12
import Derived.Test.YtmkbbekeimnajaaDoorMMemory13
import Derived.Test.YtmkbbekeimnajaaDoorMMemory14
import Derived.Test.YtmkbbekeimnajaaDoorMMemory15
import Derived.Test.YtmkbbekeimnajaaDoorMMemory16
import Derived.Deep.RegionHeldLaw
/-! Wap: apart (41) -/
namespace Go.Proofs.YtmkbbekeimnajaaDoor
open Go.RowKit Ds
def H4 (R R0 : Nat → SRec) : Prop := ∀ j, j < 4 → R j = R0 j
theorem H4.snoc {R R0 : Nat → SRec} {N : Nat} {r : SRec} (h : H4 R R0) (hN : 4 ≤ N) : H4 (snocR R N r) R0 := fun j hj => by rw [snocR_lt R r (by omega)]; exact h j hj
theorem H4.set {R R0 : Nat → SRec} {i : Nat} {m : Nat → Bool} (h : H4 R R0) (hi : 4 ≤ i) : H4 (setW R i m) R0 := fun j hj => by rw [setW_m R i m (by omega)]; exact h j hj
theorem Apt.x0 {w wr : World} {B n X gr T N : Nat} {m : Nat → Bool} {R R0 : Nat → SRec} {mv : Value} (h : Apt w B n X gr T m N R mv wr) (h4 : H4 R R0) {i : Nat} (hi : i < 4) :
    wr.cell? ⟨X, i, none⟩ = some (.pointer (some ⟨(R0 i).S, 0, none⟩)) ∧ SetAt wr (R0 i).S (R0 i).g (R0 i).cap n (R0 i).m := by
  have h1 := h.x hi
  have h2 := h.fam.at_ i (by omega)
  rw [h4 i hi] at h1 h2
  exact ⟨h1, h2⟩
theorem Apt.made {w wr : World} {B n X gr T N c : Nat} {m : Nat → Bool} {R : Nat → SRec} {ao : Option Addr} (h : Apt w B n X gr T m N R (.slice ao N c) wr) {i : Nat} (hi : i < N) :
    ∃ gm, ao = some ⟨gm, 0, none⟩ ∧ N ≤ c ∧ c ≤ 9223372036854775807 ∧ wr.cell? ⟨gm, i, none⟩ = some (.pointer (some ⟨(R (4 + i)).S, 0, none⟩)) := by
  obtain ⟨g, cap, hv, h1, h2, h3⟩ := own_cell h.row hi
  simp only [Value.slice.injEq] at hv
  obtain ⟨rfl, _, rfl⟩ := hv
  rw [ptrs_get R 4 hi] at h3
  exact ⟨g, rfl, h1, h2, h3⟩
theorem Wst.shape {w wr : World} {B n X gr T N K : Nat} {m : Nat → Bool} {R : Nat → SRec} {mv wv : Value} (h : Wst w B n X gr T m N R mv K wv wr) : ∃ ao c, wv = .slice ao K c := by
  obtain ⟨W, h1, _⟩ := h.was
  exact row_shape h1
theorem Wst.form {w wr : World} {B n X gr T N K c : Nat} {m : Nat → Bool} {R : Nat → SRec} {mv : Value} {ao : Option Addr} (h : Wst w B n X gr T m N R mv K (.slice ao K c) wr) {i : Nat} (hi : i < K) :
    ∃ gw q, ao = some ⟨gw, 0, none⟩ ∧ K ≤ c ∧ c ≤ 9223372036854775807 ∧ wr.cell? ⟨gw, i, none⟩ = some (slV q (encS n (R (4 + i)).m)) ∧ wr.heap[q]? = some (.cells (u8s (encS n (R (4 + i)).m)).toArray 5 (0, 0)) := by
  obtain ⟨W, h1, h2⟩ := h.was
  obtain ⟨g, cap, hv, k1, k2, k3⟩ := own_cell h1 hi
  simp only [Value.slice.injEq] at hv
  obtain ⟨rfl, _, rfl⟩ := hv
  rw [forms_get n R W hi] at k3
  exact ⟨g, W i, rfl, k1, k2, k3, h2 i hi⟩
def flipW (n : Nat) (R : Nat → SRec) (i : Nat) : Nat → SRec := fun j => if j < i then ⟨(R j).S, (R j).g, (R j).cap, flipM n (R j).m 3⟩ else R j
theorem flipW_zero (n : Nat) (R : Nat → SRec) : flipW n R 0 = R := by funext j; unfold flipW; rw [if_neg (by omega)]
theorem flipW_at (n : Nat) (R : Nat → SRec) (i : Nat) : flipW n R i i = R i := if_neg (by omega)
theorem flipW_far (n : Nat) (R : Nat → SRec) {i j : Nat} (h : i ≤ j) : flipW n R i j = R j := if_neg (by omega)
theorem flipW_succ (n : Nat) (R : Nat → SRec) (i : Nat) : setW (flipW n R i) i (flipM n (R i).m 3) = flipW n R (i + 1) := by
  funext j
  unfold setW flipW
  by_cases e : j = i
  · subst e
    rw [if_pos rfl, if_neg (by omega), if_pos (by omega)]
  · rw [if_neg e]
    by_cases h : j < i
    · rw [if_pos h, if_pos (by omega)]
    · rw [if_neg h, if_neg (by omega)]
theorem flipW_flipW (n : Nat) (R : Nat → SRec) (i : Nat) : flipW n (flipW n R i) i = R := by
  funext j
  unfold flipW
  by_cases h : j < i
  · rw [if_pos h, if_pos h, flip_flip]
  · rw [if_neg h, if_neg h]
/-- the state behind the first form of the document's set -/
structure Fin4 (w : World) (Q B n X gr T : Nat) (m : Nat → Bool) (N : Nat) (R : Nat → SRec) (mv : Value) (K : Nat) (wv fv : Value) (wr : World) : Prop where
  wst : Wst w B n X gr T m N R mv K wv wr
  own : Own wr Q fv (encS n m)
  deb : DeBr wr
  size : 15 < wr.heap.size
theorem Fin4.keep {w wr w' : World} {Q B n X gr T N K : Nat} {m : Nat → Bool} {R : Nat → SRec} {mv wv fv : Value} (h : Fin4 w Q B n X gr T m N R mv K wv fv wr) (hb : Below wr.heap.size wr w') : Fin4 w Q B n X gr T m N R mv K wv fv w' :=
  ⟨h.wst.keep hb, own_keep h.own hb, debr_below h.deb hb h.size, Nat.lt_of_lt_of_le h.size hb.size⟩
theorem Fin4.set {w wr w' : World} {Q B n X gr T N K i : Nat} {m m' : Nat → Bool} {R : Nat → SRec} {mv wv fv : Value} (h : Fin4 w Q B n X gr T m N R mv K wv fv wr) (hi : i < 4) (hs : SetAt w' (R i).S (R i).g (R i).cap n m') (hf : Foot wr w' (fun k => k = (R i).S ∨ k = (R i).g)) (hB : 15 < B) :
    Fin4 w Q B n X gr T m N (setW R i m') mv K wv fv w' := by
  have hge := h.wst.apt.ge i (by omega)
  have hb := hf.below (B := B) (fun k hk => by rcases hk with rfl | rfl; exact hge.1; exact hge.2) h.wst.apt.base
  exact ⟨h.wst.set (by omega) (.inl hi) hs hf, row_keepTy h.own (keepTy_set (h.wst.apt.fam.at_ i (by omega)) hf 5 (by decide) (by decide)), debr_below h.deb hb hB, Nat.lt_of_lt_of_le h.size hf.size⟩
theorem sfam_two {w : World} {S1 g1 c1 S2 g2 c2 n : Nat} {m : Nat → Bool} (h1 : SetAt w S1 g1 c1 n m) (h2 : SetAt w S2 g2 c2 n m) (hne : S1 ≠ S2 ∧ g1 ≠ g2) : SFam w n 2 (fun i => if i = 0 then ⟨S1, g1, c1, m⟩ else ⟨S2, g2, c2, m⟩) := by
  refine ⟨fun i hi => ?_, fun i j hi hj hij => ?_⟩
  · by_cases e : i = 0
    · subst e; exact h1
    · obtain rfl : i = 1 := by omega
      exact h2
  · by_cases e : i = 0
    · subst e
      obtain rfl : j = 1 := by omega
      exact hne
    · obtain rfl : i = 1 := by omega
      obtain rfl : j = 0 := by omega
      exact ⟨fun e => hne.1 e.symm, fun e => hne.2 e.symm⟩
theorem count_zero {w : World} {S g cap n : Nat} (h : SetAt w S g cap n (fun _ => false)) : Calls Tryd.prog 17 #[.pointer (some ⟨S, 0, none⟩)] w fun e w' => e = .returned (.int .i64 0) ∧ w = w' :=
  (count_any w h).mono fun e w' ⟨a, b⟩ => ⟨by rw [a, cnt_none]; rfl, b⟩
theorem count_full {w : World} {S g cap n : Nat} (h : SetAt w S g cap n (neg (fun _ => false) n)) : Calls Tryd.prog 17 #[.pointer (some ⟨S, 0, none⟩)] w fun e w' => e = .returned (.int .i64 (n : Nat)) ∧ w = w' :=
  (count_any w h).mono fun e w' ⟨a, b⟩ => ⟨by rw [a, cnt_neg, cnt_none, Nat.sub_zero], b⟩
/-- what a region of calls reads -/
structure Rg4 (wb : World) (S1 g1 c1 S2 g2 c2 S3 g3 S4 g4 n T gr : Nat) (m : Nat → Bool) (l : List Nat) (fv : Value) (wr : World) : Prop where
  s1 : SetAt wr S1 g1 c1 n m
  s2 : SetAt wr S2 g2 c2 n m
  s3 : SetAt wr S3 g3 (nw n) n (fun _ => false)
  s4 : SetAt wr S4 g4 (nw n) n (neg (fun _ => false) n)
  own : ROwn wr gr n m
  box : wr.heap[T]? = some (refBox gr n)
  src : Src wr fv l
  deb : DeBr wr
  size : 15 < wr.heap.size
  below : Below wb.heap.size wb wr
structure Rg1 (wb : World) (S g cap n : Nat) (m : Nat → Bool) (G r : Nat) (fv : Value) (l : List Nat) (wr : World) : Prop where
  set : SetAt wr S g cap n m
  cell : wr.cell? ⟨G, r, none⟩ = some fv
  src : Src wr fv l
  below : Below wb.heap.size wb wr
theorem Rg1.keep {wb wr w' : World} {S g cap n : Nat} {m : Nat → Bool} {G r : Nat} {fv : Value} {l : List Nat} (h : Rg1 wb S g cap n m G r fv l wr) (hb : Below wr.heap.size wr w') : Rg1 wb S g cap n m G r fv l w' :=
  ⟨h.set.keep hb, lt_keep h.cell hb, src_keep h.src hb, h.below.trans (hb.mono h.below.size)⟩
theorem Rg4.keep {wb wr w' : World} {S1 g1 c1 S2 g2 c2 S3 g3 S4 g4 n T gr : Nat} {m : Nat → Bool} {l : List Nat} {fv : Value} (h : Rg4 wb S1 g1 c1 S2 g2 c2 S3 g3 S4 g4 n T gr m l fv wr) (hb : Below wr.heap.size wr w') :
    Rg4 wb S1 g1 c1 S2 g2 c2 S3 g3 S4 g4 n T gr m l fv w' :=
  ⟨h.s1.keep hb, h.s2.keep hb, h.s3.keep hb, h.s4.keep hb, h.own.keep hb, (hb.block _ (heap_lt h.box)).trans h.box, src_keep h.src hb, debr_below h.deb hb h.size, Nat.lt_of_lt_of_le h.size hb.size, h.below.trans (hb.mono h.below.size)⟩
theorem Rg4.start {w wr : World} {B S1 g1 c1 S2 g2 c2 S3 g3 S4 g4 n X T gr N : Nat} {m : Nat → Bool} {R R0 : Nat → SRec} {mv fv : Value} {l : List Nat} (h : Apt w B n X gr T m N R mv wr) (h4 : H4 R R0) (e0 : R0 0 = ⟨S1, g1, c1, m⟩) (e1 : R0 1 = ⟨S2, g2, c2, m⟩)
    (e2 : R0 2 = ⟨S3, g3, nw n, fun _ => false⟩) (e3 : R0 3 = ⟨S4, g4, nw n, neg (fun _ => false) n⟩) (hs : Src wr fv l) (hd : DeBr wr) (hz : 15 < wr.heap.size) : Rg4 wr S1 g1 c1 S2 g2 c2 S3 g3 S4 g4 n T gr m l fv wr := by
  have k0 := (h.x0 h4 (i := 0) (by omega)).2
  have k1 := (h.x0 h4 (i := 1) (by omega)).2
  have k2 := (h.x0 h4 (i := 2) (by omega)).2
  have k3 := (h.x0 h4 (i := 3) (by omega)).2
  rw [e0] at k0
  rw [e1] at k1
  rw [e2] at k2
  rw [e3] at k3
  exact ⟨k0, k1, k2, k3, h.own, h.box, hs, hd, hz, Below.refl _ _⟩
set_option maxRecDepth 100000 in
set_option maxHeartbeats 8000000 in
theorem apart_any (w : World) (B : Nat) (T : DeBr w) (a : Addr) (hE : ErrAt w 0 a) (hB : 25 ≤ B) (hBw : B ≤ w.heap.size) {S1 g1 c1 S2 g2 c2 n gr : Nat} {m : Nat → Bool} (h1 : SetAt w S1 g1 c1 n m) (h2 : SetAt w S2 g2 c2 n m) (hne : S1 ≠ S2 ∧ g1 ≠ g2)
    (hb1 : B ≤ S1 ∧ B ≤ g1) (hb2 : B ≤ S2 ∧ B ≤ g2) (hr : ROwn w gr n m) :
    Calls Tryd.prog 41 #[.pointer (some ⟨S1, 0, none⟩), .pointer (some ⟨S2, 0, none⟩), RefV gr n] w fun e w' => e = .returned (.bool true) ∧ Below B w w' := by
  have hn := h1.small
  have HT := hide T
  have HE := hide hE
  have HF2 := hide (sfam_two h1 h2 hne)
  have HG := hide (And.intro hb1 hb2)
  have HR := hide hr
  clear T hE h1 h2 hne hb1 hb2 hr
  go_enter Tryd.func41, Tryd.ntmps41
  go_upto_region 1 with (fail)
  have hbx := (Below.refl w.heap.size w).alloc (Nat.le_refl _) (refBox gr n)
  have HBX := hide hbx
  have z1 := hbx.size
  have hbox : (w.alloc (refBox gr n)).heap[w.heap.size]? = some (refBox gr n) := heap_new rfl _
  have HR1 := hide (HR.out.keep hbx)
  have HF21 := hide (HF2.out.keep hbx)
  obtain ⟨T0, hT0⟩ : ∃ T, w.heap.size = T := ⟨_, rfl⟩
  rw [hT0] at hbox
  have HBOX := hide hbox
  clear hbx hbox HR HF2
  rw [show (⟨w.heap.size, 0, none⟩ : Addr) = ⟨T0, 0, none⟩ from by rw [hT0]]
  have HT0 := hide hT0
  clear hT0
  generalize w.alloc (refBox gr n) = w1 at *
  obtain ⟨c0, c1x⟩ := cells2 HBOX.out
  go_wp2_with fail
  refine (new_ok w1 n hn).mono ?_
  rintro e w2 ⟨S3, g3, rfl, hS3, hg3, hs3, hb2⟩
  have HF3 := hide (HF21.out.snoc hb2 hS3 hg3 hs3)
  have HB2 := hide hb2
  have z2 := hb2.size
  clear hb2
  go_wp2_with fail
  refine (not_any w2 hs3).mono ?_
  rintro e w3 ⟨S4, g4, rfl, hS4, hg4, hs4, hb3⟩
  have HF4 := hide (HF3.out.snoc hb3 hS4 hg4 hs4)
  have HB3 := hide hb3
  have z3 := hb3.size
  clear hb3 hs3 hs4 HF21 HF3 c0 c1x
  go_upto_region 8 with (fail)
  obtain ⟨R0, hR0⟩ : ∃ R, snocR (snocR (fun i => if i = 0 then (⟨S1, g1, c1, m⟩ : SRec) else ⟨S2, g2, c2, m⟩) 2 ⟨S3, g3, nw n, fun _ => false⟩) (2 + 1) ⟨S4, g4, nw n, neg (fun _ => false) n⟩ = R := ⟨_, rfl⟩
  have e0 : R0 0 = ⟨S1, g1, c1, m⟩ := by rw [← hR0]; rfl
  have e1 : R0 1 = ⟨S2, g2, c2, m⟩ := by rw [← hR0]; rfl
  have e2 : R0 2 = ⟨S3, g3, nw n, fun _ => false⟩ := by rw [← hR0]; rfl
  have e3 : R0 3 = ⟨S4, g4, nw n, neg (fun _ => false) n⟩ := by rw [← hR0]; rfl
  have hp : ptrs R0 0 4 = [.pointer (some ⟨S1, 0, none⟩), .pointer (some ⟨S2, 0, none⟩), .pointer (some ⟨S3, 0, none⟩), .pointer (some ⟨S4, 0, none⟩)] := by rw [← hR0]; rfl
  rw [hR0] at HF4
  have hba := (Below.refl w3.heap.size w3).alloc (Nat.le_refl _) (.cells #[.pointer (some ⟨S1, 0, none⟩), .pointer (some ⟨S2, 0, none⟩), .pointer (some ⟨S3, 0, none⟩), .pointer (some ⟨S4, 0, none⟩)] 24)
  have HA0 := hide (show Apt w B n w3.heap.size gr T0 m 0 R0 (.slice none 0 0) (w3.alloc (.cells #[.pointer (some ⟨S1, 0, none⟩), .pointer (some ⟨S2, 0, none⟩), .pointer (some ⟨S3, 0, none⟩), .pointer (some ⟨S4, 0, none⟩)] 24)) from
    ⟨HF4.out.keep hba, World.ownsRow_nil _ _ _ _, by rw [hp]; exact heap_new rfl _, ((HR1.out.keep HB2.out).keep HB3.out).keep hba,
      ((((HB2.out.block _ (heap_lt HBOX.out)).trans HBOX.out) |> fun h => (HB3.out.block _ (heap_lt h)).trans h) |> fun h => (hba.block _ (heap_lt h)).trans h),
      ((HBX.out.mono hBw).trans (HB2.out.mono (by omega))).trans ((HB3.out.mono (by omega)).trans (hba.mono (by omega))), by rw [World.size_alloc]; omega, by omega, fun i hi => by
        obtain rfl | rfl | rfl | rfl : i = 0 ∨ i = 1 ∨ i = 2 ∨ i = 3 := by omega
        · rw [e0]; exact HG.out.1
        · rw [e1]; exact HG.out.2
        · rw [e2]; exact ⟨by dsimp only; omega, by dsimp only; omega⟩
        · rw [e3]; exact ⟨by dsimp only; omega, by dsimp only; omega⟩⟩)
  have E0 := hide e0
  have E1 := hide e1
  have E2 := hide e2
  have E3 := hide e3
  obtain ⟨X, hX⟩ : ∃ X, w3.heap.size = X := ⟨_, rfl⟩
  rw [show (⟨w3.heap.size, 0, none⟩ : Addr) = ⟨X, 0, none⟩ from by rw [hX]]
  rw [hX] at HA0
  clear hX hba hp e0 e1 e2 e3 hR0 HF4 HB2 HB3 HBX HR1 HBOX HG hS3 hg3 hS4 hg4 z1 z2 z3
  generalize w3.alloc (.cells #[.pointer (some ⟨S1, 0, none⟩), .pointer (some ⟨S2, 0, none⟩), .pointer (some ⟨S3, 0, none⟩), .pointer (some ⟨S4, 0, none⟩)] 24) = w4 at *
  have HI := hide (show H4 R0 R0 from fun j _ => rfl)
  go_wp2_with fail
  go_loopw [11, 12] (fun mv o wr => ∃ (k N : Nat) (R : Nat → SRec), o = .int .i64 (k : Nat) ∧ 1 ≤ k ∧ k ≤ 4 ∧ N ≤ 16 * (k - 1) ∧ Apt w B n X gr T0 m N R mv wr ∧ H4 R R0) (fun _ o _ => 4 - (intOf o).toNat)
  case atStart => exact ⟨1, 0, R0, rfl, by omega, by omega, by omega, HA0.out, HI.out⟩
  case round =>
    obtain ⟨k, N, R, rfl, hk1, hk4, hN, ha, h4⟩ := hrel
    have HA := hide ha
    have HI4 := hide h4
    clear ha h4
    by_cases hlt : k ≤ 3
    · have hkk : (k : Int) ≤ 3 := by omega
      go_wp2_with fail
      go_loopw [11, 56] (fun mv o wr => ∃ (i N : Nat) (R : Nat → SRec), o = .int .i64 (i : Nat) ∧ i ≤ 4 ∧ N ≤ 16 * (k - 1) + 4 * i ∧ Apt w B n X gr T0 m N R mv wr ∧ H4 R R0) (fun _ o _ => 4 - (intOf o).toNat)
      case atStart => exact ⟨0, N, R, rfl, by omega, by omega, HA.out, HI4.out⟩
      case round =>
        obtain ⟨i, N, R, rfl, hi4, hN, ha, h4⟩ := hrel
        have HA := hide ha
        have HI4 := hide h4
        clear ha h4
        by_cases hli : i < 4
        · have hii : (i : Int) < 4 := by omega
          have hci := (HA.out.x0 HI4.out hli).1
          go_wp2_with fail
          go_loopw [11, 62] (fun mv o wr => ∃ (j N : Nat) (R : Nat → SRec), o = .int .i64 (j : Nat) ∧ j ≤ 4 ∧ N ≤ 16 * (k - 1) + 4 * i + j ∧ Apt w B n X gr T0 m N R mv wr ∧ H4 R R0) (fun _ o _ => 4 - (intOf o).toNat)
          case atStart => exact ⟨0, N, R, rfl, by omega, by omega, HA.out, HI4.out⟩
          case round =>
            obtain ⟨j, N, R, rfl, hj4, hN, ha, h4⟩ := hrel
            have HA := hide ha
            have HI4 := hide h4
            clear ha h4 hci
            by_cases hlj : j < 4
            · have hjj : (j : Int) < 4 := by omega
              have hcj := (HA.out.x0 HI4.out hlj).1
              have HJ := hide (joined_any wr k ⟨hk1, hlt⟩ (HA.out.x0 HI4.out hli).2 (HA.out.x0 HI4.out hlj).2)
              go_wp2_with fail
              refine HJ.out.mono ?_
              rintro e w5 ⟨S, g, m', rfl, hS, hg, hs, hb⟩
              obtain ⟨v', w6, k1, k2⟩ := apt_push1 HA.out hb hS hg hs (by omega)
              have HK1 := hide k1
              have HK2 := hide k2
              clear k1 k2 hb hS hg hs hcj
              go_wp2_with (at_builtin; refine wpList_run 119 _ w6 _ _ _ rfl (.tmp 66) (.tmp 71) rfl rfl rfl HK1.out ?_)
              exact ⟨⟨j + 1, N + 1, _, vi (by push_cast; omega), by omega, by omega, HK2.out, HI4.out.snoc (by omega)⟩, by simp only [intOf]; omega⟩
            · obtain rfl : j = 4 := by omega
              go_wp2_with fail
              exact ⟨⟨i + 1, N, R, vi (by push_cast; omega), by omega, by omega, HA.out, HI4.out⟩, by simp only [intOf]; omega⟩
        · obtain rfl : i = 4 := by omega
          go_wp2_with fail
          exact ⟨⟨k + 1, N, R, vi (by push_cast; omega), by omega, by omega, by omega, HA.out, HI4.out⟩, by simp only [intOf]; omega⟩
    · have hkk : ¬ (k : Int) ≤ 3 := by omega
      have hN48 : N ≤ 48 := by omega
      clear hN
      go_wp2_with fail
      go_loopw [11, 77] (fun mv o wr => ∃ (i N : Nat) (R : Nat → SRec), o = .int .i64 (i : Nat) ∧ i ≤ 4 ∧ N ≤ 48 + 2 * i ∧ Apt w B n X gr T0 m N R mv wr ∧ H4 R R0) (fun _ o _ => 4 - (intOf o).toNat)
      case atStart => exact ⟨0, N, R, rfl, by omega, by omega, HA.out, HI4.out⟩
      case round =>
        obtain ⟨i, N, R, rfl, hi4, hN, ha, h4⟩ := hrel
        have HA := hide ha
        have HI4 := hide h4
        clear ha h4
        by_cases hli : i < 4
        · have hii : (i : Int) < 4 := by omega
          have hci := (HA.out.x0 HI4.out hli).1
          have HS := hide (HA.out.x0 HI4.out hli).2
          go_wp2_with fail
          refine (not_any wr HS.out).mono ?_
          rintro e w5 ⟨S, g, rfl, hS, hg, hs, hb⟩
          have HB5 := hide hb
          have HS5 := hide hs
          have HSg := hide (And.intro hS hg)
          clear hb hs hS hg
          go_wp2_with fail
          refine (clone_any w5 (HS.out.keep HB5.out)).mono ?_
          rintro e w6 ⟨S', g', cap', rfl, hS', hg', hs', hb'⟩
          obtain ⟨v', w7, k1, k2⟩ := apt_push2 HA.out HB5.out HSg.out.1 HSg.out.2 HS5.out hb' hS' hg' hs' (by omega)
          have HK1 := hide k1
          have HK2 := hide k2
          clear k1 k2 hb' hS' hg' hs' hci
          go_wp2_with (at_builtin; refine wpList_run 119 _ w7 _ _ _ rfl (.tmp 81) (.tmp 86) rfl rfl rfl HK1.out ?_)
          exact ⟨⟨i + 1, N + 2, _, vi (by push_cast; omega), by omega, by omega, HK2.out, (HI4.out.snoc (by omega)).snoc (by omega)⟩, by simp only [intOf]; omega⟩
        · have hii : ¬ (i : Int) < 4 := by omega
          obtain ⟨ao, c, rfl⟩ := row_shape HA.out.row
          have hNN : N ≤ 56 := by omega
          have HW := hide (Wst.start HA.out)
          clear hN
          go_wp2_with fail
          go_loopw [19, 91] (fun wv o wr => ∃ (i : Nat) (R : Nat → SRec), o = .int .i64 (i : Nat) ∧ i ≤ N ∧ Wst w B n X gr T0 m N R (.slice ao N c) i wv wr ∧ H4 R R0) (fun _ o _ => N - (intOf o).toNat)
          case atStart => exact ⟨0, R, rfl, by omega, HW.out, HI4.out⟩
          case round =>
            obtain ⟨i, R, rfl, hiN, hw, h4⟩ := hrel
            obtain ⟨wo, wk, rfl⟩ := hw.shape
            have HW := hide hw
            have HI4 := hide h4
            clear hw h4
            by_cases hli : i < N
            · have hii : (i : Int) < (N : Int) := by omega
              obtain ⟨gm, rfl, hNc, hcc, hci⟩ := HW.out.apt.made hli
              have HS := hide (HW.out.apt.fam.at_ (4 + i) (by omega))
              have HGE := hide (HW.out.apt.ge (4 + i) (by omega))
              have HFL := hide (flip_any wr HS.out B (by omega) HGE.out.1 HGE.out.2 HW.out.apt.base a (err_below HE.out HW.out.apt.below (by omega)))
              go_wp2_with fail
              refine HFL.out.mono ?_
              rintro e w5 ⟨⟨ev, rfl⟩, hs, hf⟩
              have HW5 := hide (HW.out.set (i := 4 + i) (by omega) (.inr (by omega)) hs hf)
              have HS5 := hide hs
              clear hs hf hci
              go_wp2_with fail
              refine (encode_set w5 HS5.out).mono ?_
              rintro e w6 ⟨q, hq, rfl, hh, hb⟩
              have hh2 := hh
              rw [← setW_at R (4 + i) (flipM n (R (4 + i)).m 3)] at hh2
              obtain ⟨v', w7, k1, k2⟩ := was_push HW5.out hb hh2 (by omega)
              rw [setW_at] at k1
              have HK1 := hide k1
              have HK2 := hide k2
              clear k1 k2 hb hq hh hh2
              generalize encS n (flipM n (R (4 + i)).m 3) = l at HK1 ⊢
              go_wp2_with (at_builtin; refine wpList_run 120 _ w7 _ _ _ rfl (.tmp 99) (.tmp 102) rfl rfl rfl HK1.out ?_)
              exact ⟨⟨i + 1, _, vi (by push_cast; omega), by omega, HK2.out, HI4.out.set (by omega)⟩, by simp only [intOf]; omega⟩
            · have hii : ¬ (i : Int) < (N : Int) := by omega
              have HiN := hide (show i = N by omega)
              obtain ⟨b0, b1⟩ := cells2 HW.out.apt.box
              have HBD := hide HW.out.apt.below
              go_wp2_with fail
              refine (ref_encode wr HW.out.apt.own hn).mono ?_
              rintro e w5 ⟨fv, rfl, ho, hb⟩
              have HFN := hide (show Fin4 w wr.heap.size B n X gr T0 m N R (.slice ao N c) i (.slice wo i wk) fv w5 from ⟨HW.out.keep hb, ho, debr_below HT.out ((HW.out.keep hb).apt.below) (by omega), by have := (HW.out.keep hb).apt.base; omega⟩)
              obtain ⟨fo, fc, rfl⟩ := src_form (own_src ho (encS_lt hn))
              clear ho hb b0 b1 HBD
              obtain ⟨Q, hQ⟩ : ∃ Q, wr.heap.size = Q := ⟨_, rfl⟩
              rw [hQ] at HFN
              clear hQ
              have HRG := hide (Rg4.start HFN.out.wst.apt HI4.out E0.out E1.out E2.out E3.out (own_src HFN.out.own (encS_lt hn)) HFN.out.deb HFN.out.size)
              obtain ⟨l, hl⟩ : ∃ l, encS n m = l := ⟨_, rfl⟩
              rw [hl] at HRG HFN ⊢
              have HL := hide hl
              clear hl
              go_upto_region 36 with (fail)
              go_cut [130] (fun s wx => s = .bool false ∧ Below w5.heap.size w5 wx)
              case first =>
                have hst := HRG.out.keep (w' := w5.drew) ((Below.refl _ _).drew)
                go_region_held_law (fun w' => w'.cell? ⟨T0, 0, none⟩ = some (.int .i64 (n : Nat))) (exact (cells2 (by assumption : Rg4 w5 S1 g1 c1 S2 g2 c2 S3 g3 S4 g4 n T0 gr m l _ _).box).1) (first
                  | (go_at_call 24; first
                    | (with_reducible refine (encode_set _ (by assumption : Rg4 w5 S1 g1 c1 S2 g2 c2 S3 g3 S4 g4 n T0 gr m l _ _).s1).mono ?_)
                    | (with_reducible refine (encode_set _ (by assumption : Rg4 w5 S1 g1 c1 S2 g2 c2 S3 g3 S4 g4 n T0 gr m l _ _).s2).mono ?_)
                     rintro e w6 ⟨q6, _, rfl, hh6, hb6⟩; have hst6 := Rg4.keep (by assumption : Rg4 w5 S1 g1 c1 S2 g2 c2 S3 g3 S4 g4 n T0 gr m l _ _) hb6; have hsr6 := src_encS hn hh6; rw [HL.out] at hsr6 ⊢; clear hh6 hb6)
                  | (go_at_call 28; refine (bytes_equal _ _ _ l l (by assumption) (by assumption : Rg4 w5 S1 g1 c1 S2 g2 c2 S3 g3 S4 g4 n T0 gr m l _ _).src).mono ?_; rintro e w7 ⟨rfl, rfl⟩)
                  | (go_at_call 17; first
                    | (with_reducible refine (count_zero (by assumption : Rg4 w5 S1 g1 c1 S2 g2 c2 S3 g3 S4 g4 n T0 gr m l _ _).s3).mono ?_)
                    | (with_reducible refine (count_full (by assumption : Rg4 w5 S1 g1 c1 S2 g2 c2 S3 g3 S4 g4 n T0 gr m l _ _).s4).mono ?_)
                     rintro e w7 ⟨rfl, rfl⟩))
                all_goals
                  go_wp2_with fail
                  go_meet
                  exact ⟨rfl, Rg4.below (by assumption : Rg4 w5 S1 g1 c1 S2 g2 c2 S3 g3 S4 g4 n T0 gr m l _ _)⟩
              case rest =>
                obtain ⟨rfl, hbc⟩ := hcut
                have HFc := hide (HFN.out.keep hbc)
                obtain ⟨R6, hR6⟩ : ∃ R', flipW n R 4 = R' := ⟨_, rfl⟩
                have HR6 := hide hR6
                clear hbc hR6 HFN HRG
                go_wp2_with fail
                go_loopw [133] (fun o wr => ∃ (p : Nat), o = .int .i64 (p : Nat) ∧ p ≤ 4 ∧ Fin4 w Q B n X gr T0 m N (flipW n R p) (.slice ao N c) i (.slice wo i wk) (.slice fo l.length fc) wr) (fun o _ => 4 - (intOf o).toNat)
                case atStart => exact ⟨0, rfl, by omega, by rw [flipW_zero]; exact HFc.out⟩
                case round =>
                  obtain ⟨p, rfl, hp4, hfn⟩ := hrel
                  have HFp := hide hfn
                  clear hfn HFc
                  by_cases hlp : p < 4
                  · have hpp : (p : Int) < 4 := by omega
                    have hcp := HFp.out.wst.apt.x hlp
                    have hsp := HFp.out.wst.apt.fam.at_ p (by omega)
                    have hgp := HFp.out.wst.apt.ge p (by omega)
                    rw [flipW_at] at hcp hsp hgp
                    have HSP := hide hsp
                    have HFL := hide (flip_any wr hsp B (by omega) hgp.1 hgp.2 HFp.out.wst.apt.base a (err_below HE.out HFp.out.wst.apt.below (by omega)))
                    clear hsp hgp
                    go_wp2_with fail
                    refine HFL.out.mono ?_
                    rintro e w6 ⟨⟨ev, rfl⟩, hs, hf⟩
                    have HF6 := hide (Fin4.set (i := p) (m' := flipM n (R p).m 3) HFp.out hlp (by rw [flipW_at]; exact hs) (by rw [flipW_at]; exact hf) (by omega))
                    rw [flipW_succ] at HF6
                    clear hs hf hcp
                    go_wp2_with fail
                    exact ⟨⟨p + 1, vi (by push_cast; omega), by omega, HF6.out⟩, by simp only [intOf]; omega⟩
                  · have hpp : ¬ (p : Int) < 4 := by omega
                    have hpe : p = 4 := by omega
                    have HF7 := hide (show Fin4 w Q B n X gr T0 m N R6 (.slice ao N c) i (.slice wo i wk) (.slice fo l.length fc) wr from by rw [← HR6.out, ← hpe]; exact HFp.out)
                    clear HFp hpe
                    go_wp2_with fail
                    go_loopw [142] (fun o wr => ∃ (p : Nat), o = .int .i64 (p : Nat) ∧ p ≤ N ∧ Fin4 w Q B n X gr T0 m N R6 (.slice ao N c) i (.slice wo i wk) (.slice fo l.length fc) wr) (fun o _ => N - (intOf o).toNat)
                    case atStart => exact ⟨0, rfl, by omega, HF7.out⟩
                    case round =>
                      obtain ⟨r, rfl, hrN, hfn⟩ := hrel
                      have HFr := hide hfn
                      clear hfn HF7
                      by_cases hlr : r < N
                      · have hrr : (r : Int) < (N : Int) := by omega
                        have hri : r < i := by have := HiN.out; omega
                        have hii2 : (r : Int) < (i : Int) := by omega
                        obtain ⟨gm, rfl, hNc, hcc, hcr⟩ := HFr.out.wst.apt.made hlr
                        obtain ⟨gw, q, rfl, hic, hwcc, hwr, hqh⟩ := HFr.out.wst.form hri
                        have HSr := hide (HFr.out.wst.apt.fam.at_ (4 + r) (by omega))
                        have HSQ := hide (src_encS hn hqh)
                        obtain ⟨Sr, hSr⟩ : ∃ s, (R6 (4 + r)).S = s := ⟨_, rfl⟩
                        obtain ⟨l2, hl2⟩ : ∃ l, encS n (R6 (4 + r)).m = l := ⟨_, rfl⟩
                        rw [hSr] at hcr HSr
                        rw [hl2] at hwr HSQ
                        have HL2 := hide hl2
                        clear hqh hSr hl2 hic hNc
                        go_upto_region 46 with (fail)
                        go_cut [154] (fun s wx => s = .bool false ∧ Below wr.heap.size wr wx)
                        case first =>
                          have hst : Rg1 wr Sr (R6 (4 + r)).g (R6 (4 + r)).cap n (R6 (4 + r)).m gw r (.slice (some ⟨q, 0, none⟩) l2.length l2.length) l2 wr.drew := ⟨HSr.out.keep ((Below.refl _ _).drew), hwr, src_keep HSQ.out ((Below.refl _ _).drew), (Below.refl _ _).drew⟩
                          go_region_held_law (fun w' => w'.cell? ⟨gw, r, none⟩ = some (.slice (some ⟨q, 0, none⟩) l2.length l2.length)) (exact (by assumption : Rg1 wr Sr (R6 (4 + r)).g (R6 (4 + r)).cap n (R6 (4 + r)).m gw r (.slice (some ⟨q, 0, none⟩) l2.length l2.length) l2 _).cell) (first
                            | (go_at_call 24; with_reducible refine (encode_set _ (by assumption : Rg1 wr Sr (R6 (4 + r)).g (R6 (4 + r)).cap n (R6 (4 + r)).m gw r (.slice (some ⟨q, 0, none⟩) l2.length l2.length) l2 _).set).mono ?_; rintro e w6 ⟨q6, _, rfl, hh6, hb6⟩; have hst6 := Rg1.keep (by assumption : Rg1 wr Sr (R6 (4 + r)).g (R6 (4 + r)).cap n (R6 (4 + r)).m gw r (.slice (some ⟨q, 0, none⟩) l2.length l2.length) l2 _) hb6; have hsr6 := src_encS hn hh6; rw [HL2.out] at hsr6 ⊢; clear hh6 hb6)
                            | (go_at_call 28; refine (bytes_equal _ _ _ l2 l2 (by assumption) (by assumption : Rg1 wr Sr (R6 (4 + r)).g (R6 (4 + r)).cap n (R6 (4 + r)).m gw r (.slice (some ⟨q, 0, none⟩) l2.length l2.length) l2 _).src).mono ?_; rintro e w7 ⟨rfl, rfl⟩))
                          all_goals
                            go_wp2_with fail
                            go_meet
                            exact ⟨rfl, Rg1.below (by assumption : Rg1 wr Sr (R6 (4 + r)).g (R6 (4 + r)).cap n (R6 (4 + r)).m gw r (.slice (some ⟨q, 0, none⟩) l2.length l2.length) l2 _)⟩
                        case rest =>
                          obtain ⟨rfl, hbr⟩ := hcut
                          have HF8 := hide (HFr.out.keep hbr)
                          clear hbr
                          go_wp2_with fail
                          exact ⟨⟨r + 1, vi (by push_cast; omega), by omega, HF8.out⟩, by simp only [intOf]; omega⟩
                      · have hrr : ¬ (r : Int) < (N : Int) := by omega
                        have HF8 := hide (show Fin4 w Q B n X gr T0 m N (flipW n R6 0) (.slice ao N c) i (.slice wo i wk) (.slice fo l.length fc) wr from by rw [flipW_zero]; exact HFr.out)
                        clear HFr
                        go_wp2_with fail
                        go_loopw [158] (fun o wr => ∃ (p : Nat), o = .int .i64 (p : Nat) ∧ p ≤ 4 ∧ Fin4 w Q B n X gr T0 m N (flipW n R6 p) (.slice ao N c) i (.slice wo i wk) (.slice fo l.length fc) wr) (fun o _ => 4 - (intOf o).toNat)
                        case atStart => exact ⟨0, rfl, by omega, HF8.out⟩
                        case round =>
                          obtain ⟨p, rfl, hp4, hfn⟩ := hrel
                          have HFp := hide hfn
                          clear hfn HF8
                          by_cases hlp : p < 4
                          · have hpp : (p : Int) < 4 := by omega
                            have hcp := HFp.out.wst.apt.x hlp
                            have hsp := HFp.out.wst.apt.fam.at_ p (by omega)
                            have hgp := HFp.out.wst.apt.ge p (by omega)
                            rw [flipW_at] at hcp hsp hgp
                            have HFL := hide (flip_any wr hsp B (by omega) hgp.1 hgp.2 HFp.out.wst.apt.base a (err_below HE.out HFp.out.wst.apt.below (by omega)))
                            clear hsp hgp
                            go_wp2_with fail
                            refine HFL.out.mono ?_
                            rintro e w6 ⟨⟨ev, rfl⟩, hs, hf⟩
                            have HF6 := hide (Fin4.set (i := p) (m' := flipM n (R6 p).m 3) HFp.out hlp (by rw [flipW_at]; exact hs) (by rw [flipW_at]; exact hf) (by omega))
                            rw [flipW_succ] at HF6
                            clear hs hf hcp
                            go_wp2_with fail
                            exact ⟨⟨p + 1, vi (by push_cast; omega), by omega, HF6.out⟩, by simp only [intOf]; omega⟩
                          · have hpp : ¬ (p : Int) < 4 := by omega
                            have hpe : p = 4 := by omega
                            have HF9 := hide (show Fin4 w Q B n X gr T0 m N R (.slice ao N c) i (.slice wo i wk) (.slice fo l.length fc) wr from by
                              have h := HFp.out
                              rw [hpe, ← HR6.out, flipW_flipW] at h
                              exact h)
                            have HBE := hide HF9.out.wst.apt.below
                            have HRG := hide (Rg4.start HF9.out.wst.apt HI4.out E0.out E1.out E2.out E3.out (own_src HF9.out.own (encS_lt hn)) HF9.out.deb HF9.out.size)
                            rw [HL.out] at HRG
                            have hBr := HF9.out.wst.apt.base
                            clear HFp hpe HF9
                            go_upto_region 54 with (fail)
                            go_cut [6] (fun s wx => s = .bool true ∧ Below wr.heap.size wr wx)
                            case first =>
                              have hst := HRG.out.keep (w' := wr.drew) ((Below.refl _ _).drew)
                              have hcl := cnt_le m n
                              go_region_held_law (fun w' => w'.cell? ⟨T0, 0, none⟩ = some (.int .i64 (n : Nat)) ∧ w'.cell? ⟨T0, 1, none⟩ = some (.slice (some ⟨gr, 0, none⟩) n n)) (exact cells2 (by assumption : Rg4 wr S1 g1 c1 S2 g2 c2 S3 g3 S4 g4 n T0 gr m l _ _).box) (first
                                | (go_at_call 24; first
                                  | (with_reducible refine (encode_set _ (by assumption : Rg4 wr S1 g1 c1 S2 g2 c2 S3 g3 S4 g4 n T0 gr m l _ _).s1).mono ?_)
                                  | (with_reducible refine (encode_set _ (by assumption : Rg4 wr S1 g1 c1 S2 g2 c2 S3 g3 S4 g4 n T0 gr m l _ _).s2).mono ?_)
                                   rintro e w6 ⟨q6, _, rfl, hh6, hb6⟩; have hst6 := Rg4.keep (by assumption : Rg4 wr S1 g1 c1 S2 g2 c2 S3 g3 S4 g4 n T0 gr m l _ _) hb6; have hsr6 := src_encS hn hh6; rw [HL.out] at hsr6 ⊢; clear hh6 hb6)
                                | (go_at_call 28; refine (bytes_equal _ _ _ l l (by assumption) (by assumption : Rg4 wr S1 g1 c1 S2 g2 c2 S3 g3 S4 g4 n T0 gr m l _ _).src).mono ?_; rintro e w7 ⟨rfl, rfl⟩)
                                | (go_at_call 13; with_reducible refine (members_any _ (by assumption : Rg4 wr S1 g1 c1 S2 g2 c2 S3 g3 S4 g4 n T0 gr m l _ _).s1 (by assumption : Rg4 wr S1 g1 c1 S2 g2 c2 S3 g3 S4 g4 n T0 gr m l _ _).deb (by assumption : Rg4 wr S1 g1 c1 S2 g2 c2 S3 g3 S4 g4 n T0 gr m l _ _).size).mono ?_; rintro e w6 ⟨v6, rfl, ho6, hb6⟩; have hi6 := ints_own (zs := mI m n) (by rw [mI_len]; exact ho6); obtain ⟨a6, k6, rfl⟩ := ints_form hi6; have hst6 := Rg4.keep (by assumption : Rg4 wr S1 g1 c1 S2 g2 c2 S3 g3 S4 g4 n T0 gr m l _ _) hb6; clear ho6 hb6)
                                | (go_at_call 33; with_reducible refine (ref_members _ (by assumption : Rg4 wr S1 g1 c1 S2 g2 c2 S3 g3 S4 g4 n T0 gr m l _ _).own hn).mono ?_; rintro e w7 ⟨v7, rfl, ho7, hb7⟩; have hi7 := ints_own (zs := mI m n) (by rw [mI_len]; exact ho7); obtain ⟨a7, k7, rfl⟩ := ints_form hi7; have hst7 := Rg4.keep (by assumption : Rg4 wr S1 g1 c1 S2 g2 c2 S3 g3 S4 g4 n T0 gr m l _ _) hb7; have hi6' := ints_keep hi6 hb7; clear ho7 hb7)
                                | (go_at_call 23; refine (ints_equal _ _ _ _ _ (mI m n) (mI m n) (by assumption) (by assumption) (by rw [mI_len]; omega)).mono ?_; rintro e w8 ⟨rfl, q8, rfl⟩; have hst8 := Rg4.keep hst7 (below_drewN (Below.refl _ _) q8)))
                              all_goals
                                go_wp2_with fail
                                go_meet
                                exact ⟨rfl, below_drewN (Rg4.below (by assumption : Rg4 wr S1 g1 c1 S2 g2 c2 S3 g3 S4 g4 n T0 gr m l _ _)) _⟩
                            case rest =>
                              obtain ⟨rfl, hbr⟩ := hcut
                              have HBF := hide (HBE.out.trans (hbr.mono hBr))
                              clear hbr
                              go_wp2_with fail
                              go_ret
                              exact ⟨rfl, HBF.out⟩
end Go.Proofs.YtmkbbekeimnajaaDoor

/-! WMemory: DocsetMemory: the walk -/
namespace Go.Proofs.YtmkbbekeimnajaaDoor
open Go.RowKit Ds
set_option maxRecDepth 100000 in
set_option maxHeartbeats 8000000 in
theorem memory_walk (w : World) (T : DeBr w) (E : Nat → Addr) (hE : Errs w E allErrs) (hg : 25 ≤ w.heap.size) (n : Int) (ao1 : Option Addr) (c1 : Nat) (zs : List Int) (h1 : Ints w (.slice ao1 zs.length c1) zs) (hl1 : zs.length + 4 ≤ 17592186044416)
    (ao2 : Option Addr) (c2 : Nat) (bs : List Nat) (h2 : Src w (.slice ao2 bs.length c2) bs) (hl2 : bs.length ≤ 140737488351232) :
    Calls Tryd.prog 9 #[.int .i64 n, .slice ao1 zs.length c1, .slice ao2 bs.length c2] w fun e w' => e = .returned (.bool true) ∧ Below w.heap.size w w' := by
  have HT := hide T
  have HE := hide hE
  have H1 := hide h1
  have H2 := hide h2
  obtain ⟨i0, hi0, hz0, hz1, hz2⟩ := info_parts info3
  obtain ⟨j0, hj0, hy0, hy1, hy2⟩ := info_parts info5
  have HI0 := hide (And.intro hi0 (And.intro hz0 (And.intro hz1 hz2)))
  have HJ0 := hide (And.intro hj0 (And.intro hy0 (And.intro hy1 hy2)))
  clear hi0 hz0 hz1 hz2 hj0 hy0 hy1 hy2
  clear T hE h1 h2
  go_enter Tryd.func9, Tryd.ntmps9
  go_wp2_with fail
  refine (fixed_any w E HE.out HT.out hg).mono ?_
  rintro e w1 ⟨rfl, hb1⟩
  have HB1 := hide hb1
  have z1 := hb1.size
  have HZ1 := hide (ints_keep H1.out hb1)
  clear hb1
  go_upto_region 3 with (fail)
  obtain ⟨len, hlen⟩ : ∃ k, zs.length = k := ⟨_, rfl⟩
  have hm64 : wrap64 ((len : Int) + 4) = ((len + 4 : Nat) : Int) := by unfold wrap64; omega
  rw [hlen] at H1 HZ1 hl1 ⊢
  have HLEN := hide hlen
  clear hlen
  go_wp2_with (at_make; refine wpList_make_own _ rfl _ _ 22 rfl w1.heap.size 3 i0 (.int .i64 0) 1 Tryd.underlying22 HI0.out.1 HI0.out.2.1 HI0.out.2.2.1 _ _ _ (len + 4) rfl rfl ?_ ?_ ?_ (Nat.le_refl _) ?_)
  · push_cast; omega
  · rw [HI0.out.2.2.2]; omega
  · simp only [maxLen]; omega
  intro w2 ho hgr
  have HB2 := hide (show Below w1.heap.size w1 w2 from ⟨hgr.os, hgr.tape, hgr.output, hgr.size, fun k hk => hgr.block k hk (by simp)⟩)
  have z2 := HB2.out.size
  obtain ⟨v2, w3, v3, w4, r1, r2, ho4, hb4⟩ := in_row w2 w1.heap.size ho z2 (ints_keep HZ1.out HB2.out) (by rw [HLEN.out]; omega)
  have HR1 := hide r1
  have HR2 := hide r2
  have HB4 := hide (HB1.out.trans ((HB2.out.trans hb4).mono z1))
  have z4 := HB4.out.size
  obtain ⟨L0, hL0⟩ : ∃ L, zs ++ [-7, -8, -9] = L := ⟨_, rfl⟩
  obtain ⟨m3, hm3⟩ : ∃ k, len + 3 = k := ⟨_, rfl⟩
  have hlm : len ≤ m3 := by omega
  have hm3b : m3 ≤ 17592186044416 := by omega
  have HL0 := hide (show L0.length = m3 by rw [← hL0, ← hm3, ← HLEN.out]; simp)
  have HLT := hide (show L0.take len = zs by rw [← hL0, ← HLEN.out]; exact List.take_left)
  rw [HLEN.out, hm3, hL0] at ho4
  obtain ⟨g1, k1, rfl, hk1, hk1', hg1⟩ := row_at ho4 (by omega)
  have HO4 := hide (row_base ho4 (B := w.heap.size) z1)
  have HL0' := hide hL0
  have HM3 := hide hm3
  clear ho hgr r1 r2 hb4 ho4 hL0 hm3 HZ1 hm64
  go_upto_region 4 with (first | (at_builtin; refine wpList_run 22 _ w3 _ _ _ rfl (.tmp 23) (.tmp 24) rfl rfl rfl HR1.out ?_) | (at_builtin; refine wpList_run 22 _ w4 _ _ _ rfl (.tmp 25) (.tmp 26) rfl rfl rfl HR2.out ?_))
  clear HR1 HR2 HB2 z2
  have hIz := row_ints HO4.out hlm
  rw [HLT.out] at hIz
  have HOF := hide (of_any w4 n (some ⟨g1, 0, none⟩) k1 zs (by rw [HLEN.out]; exact hIz) (by rw [HLEN.out]; omega) (E 0) ((HE.out.below HB4.out (Nat.le_refl _) (ids_lt hg)).cell 0 (by decide)) (by omega))
  rw [HLEN.out] at HOF
  clear hIz
  go_wp2_with fail
  refine HOF.out.mono ?_
  rintro e w5 ⟨hof, hb5⟩
  obtain ⟨es, ee, rfl, hso⟩ := SOut.of hof (B' := w.heap.size) z4
  have HMD := hide (show Mid w n zs (E 0) es ee g1 k1 m3 (intCells L0) w5 from ⟨hso, row_keepTy HO4.out (keepTy_below hb5 3), Nat.le_trans z4 hb5.size, HB4.out.trans (hb5.mono z4)⟩)
  clear hof hb5 hso HO4 HOF HB4 z4
  obtain ⟨v6, w6, v7, w7, r1, r2, ho7, hb7⟩ := in_row_lit w5 (ints_keep H1.out HMD.out.below) (by rw [HLEN.out]; omega)
  have HR1 := hide r1
  have HR2 := hide r2
  rw [HLEN.out, HM3.out, HL0'.out] at ho7
  obtain ⟨a7, k7, rfl⟩ := row_shape ho7
  have HM7 := hide (HMD.out.keep hb7)
  have HI7 := hide (ints_own (zs := L0) (by rw [HL0.out]; exact ho7))
  clear r1 r2 ho7 hb7 HMD
  have hI1 := row_ints HM7.out.row (Nat.le_refl m3)
  rw [← HL0.out, List.take_length] at hI1
  have HEQ := hide (ints_equal w7 (some ⟨g1, 0, none⟩) a7 k1 k7 L0 L0 hI1 (by rw [HL0.out]; exact HI7.out) (by rw [HL0.out]; omega))
  rw [HL0.out] at HEQ
  clear hI1 HI7
  go_wp2_with (first | (at_builtin; refine wpList_run 22 _ w6 _ _ _ rfl (.tmp 38) (.tmp 39) rfl rfl rfl HR1.out ?_) | (at_builtin; refine wpList_run 22 _ w7 _ _ _ rfl (.tmp 40) (.tmp 41) rfl rfl rfl HR2.out ?_))
  refine HEQ.out.mono ?_
  rintro e w8 ⟨rfl, d8, rfl⟩
  have HM8 := hide (HM7.out.keep (below_drewN (Below.refl _ _) d8))
  clear HM7 HEQ HR1 HR2
  generalize w7.drewN d8 = w8 at *
  have HN0 := hide (intCells_len L0)
  rw [HL0.out] at HN0
  go_wp2_with fail
  go_loopw [47] (fun o wr => ∃ (i : Nat), o = .int .i64 (i : Nat) ∧ i ≤ m3 ∧ Mid w n zs (E 0) es ee g1 k1 m3 (mk (.int .i64 0) i (intCells L0)) wr) (fun o _ => m3 - (intOf o).toNat)
  case atStart => exact ⟨0, rfl, by omega, by rw [mk_zero]; exact HM8.out⟩
  case round =>
    obtain ⟨i, rfl, hi, hmd⟩ := hrel
    have HMi := hide hmd
    clear hmd HM8
    by_cases hli : i < m3
    · have hii : (i : Int) < (m3 : Int) := by omega
      obtain ⟨y, hy⟩ := mk_cell (.int .i64 0) (i := i) (j := i) (L := intCells L0) (by rw [HN0.out]; exact hli)
      obtain ⟨hcy, hfy⟩ := row_cell HMi.out.row hy
      have HMn := hide (HMi.out.put i (.int .i64 0))
      rw [mk_set _ (by rw [HN0.out]; exact hli)] at HMn
      clear hy
      go_wp2_with fail
      exact ⟨⟨i + 1, vi (by push_cast; omega), by omega, HMn.out⟩, by simp only [intOf]; omega⟩
    · have hii : ¬ (i : Int) < (m3 : Int) := by omega
      have HM9 := hide (show Mid w n zs (E 0) es ee g1 k1 m3 (intCells (List.replicate m3 0)) wr from by
        have h := HMi.out
        rw [show i = m3 by omega, zeros_ints m3 L0 HL0.out] at h
        exact h)
      clear HMi
      obtain ⟨blen, hblen⟩ : ∃ k, bs.length = k := ⟨_, rfl⟩
      rw [hblen] at H2 hl2 ⊢
      have HBL := hide hblen
      clear hblen
      have hm65 : wrap64 ((blen : Int) + 4) = ((blen + 4 : Nat) : Int) := by unfold wrap64; omega
      go_wp2_with (at_make; refine wpList_make_own _ rfl _ _ 46 rfl wr.heap.size 5 j0 (.int .u8 0) 1 Tryd.underlying46 HJ0.out.1 HJ0.out.2.1 HJ0.out.2.2.1 _ _ _ (blen + 4) rfl rfl ?_ ?_ ?_ (Nat.le_refl _) ?_)
      · rw [HJ0.out.2.2.2]; omega
      · simp only [maxLen]; omega
      intro w10 ho hgr
      have HB10 := hide (show Below wr.heap.size wr w10 from ⟨hgr.os, hgr.tape, hgr.output, hgr.size, fun k hk => hgr.block k hk (by simp)⟩)
      obtain ⟨v11, w11, v12, w12, r1, r2, ho12, hb12⟩ := raw_row w10 wr.heap.size ho HB10.out.size (src_keep (src_keep H2.out HM9.out.below) HB10.out) (by rw [HBL.out]; omega)
      have HR1 := hide r1
      have HR2 := hide r2
      have HM12 := hide (HM9.out.keep (HB10.out.trans hb12))
      obtain ⟨M0, hM0⟩ : ∃ L, bs ++ [251, 252] = L := ⟨_, rfl⟩
      obtain ⟨m2, hm2⟩ : ∃ k, blen + 2 = k := ⟨_, rfl⟩
      have hbm : blen ≤ m2 := by omega
      have hm2b : m2 ≤ 140737488355328 := by omega
      have HM0 := hide (show M0.length = m2 by rw [← hM0, ← hm2, ← HBL.out]; simp)
      have HMT := hide (show M0.take blen = bs by rw [← hM0, ← HBL.out]; exact List.take_left)
      have HMX := hide (show ∀ x ∈ M0, x < 256 from by
        intro x hx
        rw [← hM0] at hx
        rcases List.mem_append.1 hx with h | h
        · exact H2.out.1 x h
        · simp at h; omega)
      rw [HBL.out, hm2, hM0] at ho12
      obtain ⟨g2, k2, rfl, hk2, hk2', hg2⟩ := row_at ho12 (by omega)
      have HO12 := hide (row_base ho12 (B := w.heap.size) HM9.out.base)
      have HM0' := hide hM0
      have HM2 := hide hm2
      clear ho hgr r1 r2 hb12 ho12 hM0 hm2 HM9 HB10 hm65 hg2
      go_upto_region 13 with (first | (at_builtin; refine wpList_run 46 _ w11 _ _ _ rfl (.tmp 57) (.tmp 58) rfl rfl rfl HR1.out ?_) | (at_builtin; refine wpList_run 46 _ w12 _ _ _ rfl (.tmp 59) (.tmp 60) rfl rfl rfl HR2.out ?_))
      clear HR1 HR2
      have hSb := row_src HO12.out hbm HMX.out
      rw [HMT.out] at hSb
      have HDE := hide (decode_any w12 _ bs hSb (by rw [HBL.out]; omega) E (HE.out.below HM12.out.below (Nat.le_refl _) (ids_lt hg)) (Nat.le_trans hg HM12.out.base))
      clear hSb
      go_wp2_with fail
      refine HDE.out.mono ?_
      rintro e w13 ⟨hd, hb13⟩
      obtain ⟨ds, de, rfl, hdo⟩ := DOut.of hd
      have HMD := hide (show Mid2 w n zs (E 0) es ee g1 k1 m3 (intCells (List.replicate m3 0)) bs (E 1) ds de g2 k2 m2 w13 from ⟨HM12.out.keep hb13, hdo, M0, HM0.out, HMX.out, row_keepTy HO12.out (keepTy_below hb13 5)⟩)
      have HO13 := hide (row_keepTy HO12.out (keepTy_below hb13 5))
      clear hd hb13 hdo HO12 HDE HM12
      obtain ⟨v14, w14, v15, w15, r1, r2, ho15, hb15⟩ := raw_row_lit w13 (src_keep H2.out HMD.out.mid.below) (by rw [HBL.out]; omega)
      have HR1 := hide r1
      have HR2 := hide r2
      rw [HBL.out, HM2.out, HM0'.out] at ho15
      have HM15 := hide (HMD.out.keep hb15)
      have HI15 := hide (own_src (bs := M0) (show Own w15 w13.heap.size v15 M0 from by unfold Own; rw [HM0.out]; exact ho15) HMX.out)
      have hS1 := row_src (row_keepTy HO13.out (keepTy_below hb15 5)) (Nat.le_refl m2) HMX.out
      rw [← HM0.out, List.take_length, HM0.out] at hS1
      have HEQ := hide (bytes_equal w15 _ v15 M0 M0 hS1 HI15.out)
      clear hS1 HI15 HO13 ho15 r1 r2 hb15 HMD
      go_wp2_with (first | (at_builtin; refine wpList_run 46 _ w14 _ _ _ rfl (.tmp 71) (.tmp 72) rfl rfl rfl HR1.out ?_) | (at_builtin; refine wpList_run 46 _ w15 _ _ _ rfl (.tmp 73) (.tmp 74) rfl rfl rfl HR2.out ?_))
      refine HEQ.out.mono ?_
      rintro e w16 ⟨rfl, rfl⟩
      clear HEQ HR1 HR2
      go_wp2_with fail
      go_loopw [80] (fun o wr => ∃ (i : Nat), o = .int .i64 (i : Nat) ∧ i ≤ m2 ∧ Mid2 w n zs (E 0) es ee g1 k1 m3 (intCells (List.replicate m3 0)) bs (E 1) ds de g2 k2 m2 wr) (fun o _ => m2 - (intOf o).toNat)
      case atStart => exact ⟨0, rfl, by omega, HM15.out⟩
      case round =>
        obtain ⟨p, rfl, hp, hmd⟩ := hrel
        have HMp := hide hmd
        clear hmd HM15
        by_cases hlp : p < m2
        · have hpp : (p : Int) < (m2 : Int) := by omega
          obtain ⟨y, z, hcy, hfy, hxor, hn⟩ := HMp.out.at hlp
          have HMn := hide hn
          clear hn
          go_wp2_with fail
          exact ⟨⟨p + 1, vi (by push_cast; omega), by omega, HMn.out⟩, by simp only [intOf]; omega⟩
        · have hpp : ¬ (p : Int) < (m2 : Int) := by omega
          go_upto_region 21 with (fail)
          go_cut [102] (fun s wx => s = .bool false ∧ Mid2 w n zs (E 0) es ee g1 k1 m3 (intCells (List.replicate m3 0)) bs (E 1) ds de g2 k2 m2 wx)
          case first =>
            rcases HMp.out.out with ⟨nd, md, Sd, gd, hnd, hbs, rfl, rfl, hsd⟩ | ⟨rfl, rfl⟩
            · have HSD := hide hsd
              have HBS := hide hbs
              clear hsd hbs
              go_wp2_with fail
              refine (encode_set _ HSD.out).mono ?_
              rintro e w17 ⟨q, hq, rfl, hh, hb⟩
              have HM17 := hide (HMp.out.keep hb)
              have HSE := hide (src_encS hnd hh)
              have HS2 := hide (src_keep H2.out HM17.out.mid.below)
              generalize (encS nd md).length = le at *
              rw [← HBS.out] at HSE
              clear hh hb hq
              go_wp2_with fail
              refine (bytes_equal w17 _ _ bs bs HSE.out HS2.out).mono ?_
              rintro e w18 ⟨rfl, rfl⟩
              go_wp2_with fail
              go_meet
              exact ⟨rfl, HM17.out⟩
            · go_wp2_with fail
              go_meet
              exact ⟨rfl, HMp.out⟩
          case rest =>
            obtain ⟨rfl, hmc⟩ := hcut
            have HMC := hide hmc
            obtain ⟨M, hM1, hM2, hM3⟩ := hmc.row
            have hI := ints_keep (row_ints hmc.mid.row hlm) ((Below.refl _ wc).drew)
            have hSr := src_keep (row_src hM3 hbm hM2) ((Below.refl _ wc).drew)
            have hzl : ((List.replicate m3 (0 : Int)).take len).length = len := by rw [List.length_take, List.length_replicate]; omega
            have hml : (M.take blen).length = blen := by rw [List.length_take, hM1]; omega
            have hbel := hmc.mid.below
            have hbas := hmc.mid.base
            have HAN := hide (anew_any wc.drew (debr_below HT.out hbel.drew (by omega)) E (HE.out.below hbel.drew (Nat.le_refl _) (ids_lt hg)) (Nat.le_trans hg hbas) n (some ⟨g1, 0, none⟩) k1 _ (by rw [hzl]; exact hI) (by rw [hzl]; omega) (some ⟨g2, 0, none⟩) k2 _ (by rw [hml]; exact hSr) (by rw [hml]; omega))
            rw [hzl, hml] at HAN
            clear hmc hM1 hM2 hM3 hI hSr hzl hml hbel hbas M HMp
            go_upto_region 23 with (fail)
            go_cut [113] (fun s wx => s = .bool false ∧ Mid2 w n zs (E 0) es ee g1 k1 m3 (intCells (List.replicate m3 0)) bs (E 1) ds de g2 k2 m2 wx)
            case first =>
              go_region_held_law (fun _ => True) (exact trivial) ((go_at_call 38; with_reducible refine HAN.out.mono ?_; rintro e w20 ⟨rfl, hb20⟩))
              all_goals
                have HM20 := hide (HMC.out.keep (below_undrew' hb20))
                go_wp2_with fail
                go_meet
                exact ⟨rfl, HM20.out⟩
            case rest =>
              obtain ⟨rfl, hm20⟩ := hcut
              have HM20 := hide hm20
              clear HAN HMC hm20
              rcases HM20.out.mid.out with ⟨N, S, g, cap, rfl, hN, hzs, rfl, rfl, hS, hgg, hs⟩ | ⟨hbad, rfl, rfl⟩
              · have HB20 := hide HM20.out.mid.below
                have z20 := HM20.out.mid.base
                have HSS := hide hs
                clear HM20 hs
                have HRO := hide (ref_of wc (N : Int) ao1 c1 zs (by rw [HLEN.out]; exact ints_keep H1.out HB20.out) (by rw [HLEN.out]; omega))
                rw [HLEN.out] at HRO
                go_wp2_with fail
                refine HRO.out.mono ?_
                rintro e w21 ⟨ho, hb21⟩
                unfold RefOf at ho
                rcases ho with ⟨N', gr, hNN, hN', _, rfl, hgr, hown⟩ | ⟨hno, rfl⟩
                · obtain rfl : N = N' := by omega
                  obtain ⟨m, hm⟩ : ∃ m, mOf zs = m := ⟨_, rfl⟩
                  rw [hm] at hown HSS
                  have HSS := hide (HSS.out.keep hb21)
                  have HB21 := hide (HB20.out.trans (hb21.mono z20))
                  have hbx := (Below.refl w21.heap.size w21).alloc (Nat.le_refl _) (refBox gr N)
                  have z21 := HB21.out.size
                  obtain ⟨T0, hT0⟩ : ∃ T, w21.heap.size = T := ⟨_, rfl⟩
                  have HRD := hide (show RdC w T0 S g cap gr N m (w21.alloc (refBox gr N)) from ⟨HSS.out.keep hbx, hown.keep hbx, heap_new hT0.symm _, debr_below HT.out (HB21.out.trans (hbx.mono z21)) (by omega), Nat.lt_of_lt_of_le (by omega) hbx.size, HB21.out.trans (hbx.mono z21)⟩)
                  clear hb21 hbx hown hNN hm hgr HSS HB20 HB21 HRO
                  go_upto_region 28 with (fail)
                  clear hT0
                  generalize w21.alloc (refBox gr N) = w22 at *
                  go_wp2_with fail
                  refine (clone_any w22 HRD.out.set).mono ?_
                  rintro e w23 ⟨S2, g3, cap2, rfl, hS2, hg3, hs2, hb23⟩
                  have hlt := HRD.out.set.lt
                  have HNE := hide (show S ≠ S2 ∧ g ≠ g3 from ⟨by omega, by omega⟩)
                  have z22 := HRD.out.below.size
                  have HGE := hide (show w.heap.size ≤ S2 ∧ w.heap.size ≤ g3 from ⟨by omega, by omega⟩)
                  have HR23 := hide (HRD.out.keep hb23)
                  have HC23 := hide hs2
                  clear hS2 hg3 hs2 hb23 hlt HRD
                  obtain ⟨b0, b1⟩ := cells2 HR23.out.box
                  go_wp2_with fail
                  refine (answers_any w23 HR23.out.deb HR23.out.size HR23.out.set HR23.out.own).mono ?_
                  rintro e w24 ⟨rfl, hb24⟩
                  have HR24 := hide (HR23.out.keep hb24)
                  have HC24 := hide (HC23.out.keep hb24)
                  clear b0 b1 hb24 HR23 HC23
                  obtain ⟨b0, b1⟩ := cells2 HR24.out.box
                  go_wp2_with fail
                  refine (answers_any w24 HR24.out.deb HR24.out.size HC24.out HR24.out.own).mono ?_
                  rintro e w25 ⟨rfl, hb25⟩
                  have HR25 := hide (HR24.out.keep hb25)
                  have HC25 := hide (HC24.out.keep hb25)
                  clear b0 b1 hb25 HR24 HC24
                  obtain ⟨b0, b1⟩ := cells2 HR25.out.box
                  go_wp2_with fail
                  refine (apart_any w25 w.heap.size HR25.out.deb (E 0) ((HE.out.below HR25.out.below (Nat.le_refl _) (ids_lt hg)).cell 0 (by decide)) hg HR25.out.below.size HR25.out.set HC25.out HNE.out ⟨hS, hgg⟩ HGE.out HR25.out.own).mono ?_
                  rintro e w26 ⟨rfl, hb26⟩
                  have HBF := hide (HR25.out.below.trans hb26)
                  clear hb26 HR25 HC25 b0 b1
                  go_wp2_with fail
                  go_ret
                  exact ⟨rfl, HBF.out⟩
                · exact absurd ⟨by omega, by omega, hzs⟩ hno
              · have HBF := hide HM20.out.mid.below
                clear HM20
                go_wp2_with fail
                go_ret
                exact ⟨rfl, HBF.out⟩
end Go.Proofs.YtmkbbekeimnajaaDoor
