/- texts of this proof, one behind the other: Pm2 Gr Tr To -/
import Derived.Test.YtmkbbekeimnajaaDoorMPlays0
import Derived.Test.YtmkbbekeimnajaaDoorMPlays1
import Derived.Test.YtmkbbekeimnajaaDoorMPlays2
import Derived.Test.YtmkbbekeimnajaaDoorMPlays3
import Derived.Test.YtmkbbekeimnajaaDoorMPlays4
import Derived.Test.YtmkbbekeimnajaaDoorMPlays5
import Derived.Test.YtmkbbekeimnajaaDoorMPlays6
import Derived.Test.YtmkbbekeimnajaaDoorMPlays7
import Derived.Test.YtmkbbekeimnajaaDoorMPlays8
import Derived.Test.YtmkbbekeimnajaaDoorMPlays9
import Derived.Test.YtmkbbekeimnajaaDoorMPlays10
import Derived.Test.YtmkbbekeimnajaaDoorMPlays11
import Derived.Test.YtmkbbekeimnajaaDoorMPlays12
import Derived.Test.YtmkbbekeimnajaaDoorMPlays13
import Derived.Test.YtmkbbekeimnajaaDoorMPlays14
import Derived.Test.YtmkbbekeimnajaaDoorMPlays15
import Derived.Test.YtmkbbekeimnajaaDoorMPlays16
import Derived.Test.YtmkbbekeimnajaaDoorMPlays17
import Derived.Deep.AppendLies
/-! Pm2: makes (73): Clone, Not, there and back -/
namespace Go.Proofs.YtmkbbekeimnajaaDoor
open Go.RowKit Ds
/-- the plays' memory at a point -/
structure Rm (w0 : World) (W : Nat) (st : Nat → Option SlotR) (wr : World) : Prop where
  wd : Wd wr w0.heap.size W st
  bel : Below w0.heap.size w0 wr
theorem Rm.keep {w0 wr w' : World} {W : Nat} {st : Nat → Option SlotR} (h : Rm w0 W st wr) (hb : Below wr.heap.size wr w') : Rm w0 W st w' := ⟨h.wd.keep hb, h.bel.trans (hb.mono h.wd.size)⟩
theorem Rm.full {w0 wr : World} {W : Nat} {st : Nat → Option SlotR} (h : Rm w0 W st wr) {a : Nat} (ha : a < 4) {r : SlotR} (hr : st a = some r) :
    wr.cell? ⟨W, a, none⟩ = some (.pointer (some ⟨r.S, 0, none⟩)) ∧ wr.cell? ⟨W, 4 + a * 2, none⟩ = some (.int .i64 (r.n : Nat)) ∧ wr.cell? ⟨W, 4 + a * 2 + 1, none⟩ = some (.slice (some ⟨r.gr, 0, none⟩) r.n r.n) ∧ wr.cell? ⟨W, 12 + a, none⟩ = some (.bool true) := by
  have := h.wd.cell ha
  rw [hr] at this
  exact this
theorem Rm.void {w0 wr : World} {W : Nat} {st : Nat → Option SlotR} (h : Rm w0 W st wr) {a : Nat} (ha : a < 4) (hr : st a = none) :
    wr.cell? ⟨W, a, none⟩ = some (.pointer none) ∧ wr.cell? ⟨W, 12 + a, none⟩ = some (.bool false) := by
  have := h.wd.cell ha
  rw [hr] at this
  exact ⟨this.1, this.2.2.2⟩
set_option maxRecDepth 100000 in
set_option maxHeartbeats 1000000 in
theorem makes_clone (w0 w : World) (E : Nat → Addr) (hE : Errs w0 E allErrs) (hT : DeBr w0) (hg : 25 ≤ w0.heap.size) (hb : Below w0.heap.size w0 w) {W : Nat} {st : Nat → Option SlotR} (hW : Wd w w0.heap.size W st) (s t dst n : Int) (lst bv : Value) :
    Calls Tryd.prog 73 #[.pointer (some ⟨W, 0, none⟩), OpV 14 s t dst n lst bv] w fun e w' => Done w0 W e w' := by
  have HEW := hide hE
  have HTW := hide hT
  have HB0 := hide hb
  have HW := hide hW
  have hz := hW.size
  clear hE hT hb hW
  go_enter Tryd.func73, Tryd.ntmps73
  go_upto_region 1 with (fail)
  have hbx := (Below.refl w.heap.size w).alloc (Nat.le_refl _) (opBox 14 s t dst n lst bv)
  have hbox : (w.alloc (opBox 14 s t dst n lst bv)).heap[w.heap.size]? = some (opBox 14 s t dst n lst bv) := heap_new rfl _
  have HW1 := hide (HW.out.keep hbx)
  have HB1 := hide (HB0.out.trans (hbx.mono hz))
  obtain ⟨c0, c1, c2, c3, c4, c5, c6⟩ := cells7 hbox
  have HBOX := hide hbox
  clear hbx hbox HW HB0
  generalize w.alloc (opBox 14 s t dst n lst bv) = w1 at *
  obtain ⟨a, ha⟩ : ∃ a, (s % 4).toNat = a := ⟨_, rfl⟩
  obtain ⟨b, hb'⟩ : ∃ b, (t % 4).toNat = b := ⟨_, rfl⟩
  obtain ⟨d, hd⟩ : ∃ d, (dst % 4).toNat = d := ⟨_, rfl⟩
  have HSA := hide (fun q => slot_any (w1.drewN q) s)
  have HSB := hide (fun q => slot_any (w1.drewN q) t)
  have HSD := hide (fun q => slot_any (w1.drewN q) dst)
  rw [ha] at HSA
  rw [hb'] at HSB
  rw [hd] at HSD
  have hal : a < 4 := by omega
  have hbl : b < 4 := by omega
  have hdl : d < 4 := by omega
  have hai : (a : Int) < 4 := by omega
  have hbi : (b : Int) < 4 := by omega
  have hdi : (d : Int) < 4 := by omega
  clear ha hb' hd
  go_quiet (first | (go_at_call 88; with_reducible exact Calls.quiet_of_same ((HSA.out _).mono (fun _ _ h => ⟨h.1, h.2.symm⟩))) | (go_at_call 88; with_reducible exact Calls.quiet_of_same ((HSB.out _).mono (fun _ _ h => ⟨h.1, h.2.symm⟩))) | (go_at_call 88; with_reducible exact Calls.quiet_of_same ((HSD.out _).mono (fun _ _ h => ⟨h.1, h.2.symm⟩))))
  have HW2 := hide (HW1.out.keep (below_drewN (Below.refl _ _) nq))
  have HB2 := hide (below_drewN HB1.out nq)
  have HBX2 := hide (show (w1.drewN nq).heap[w.heap.size]? = some (opBox 14 s t dst n lst bv) from HBOX.out)
  clear HW1 HB1 HBOX HSA HSB HSD c0 c1 c2 c3 c4 c5 c6
  generalize w1.drewN nq = w2 at *
  obtain ⟨c0, c1, c2, c3, c4, c5, c6⟩ := cells7 HBX2.out
  cases hst : st a with
  | none =>
    obtain ⟨k1, k4⟩ := Rm.void ⟨HW2.out, HB2.out⟩ hal hst
    have HD := hide (show Done w0 W (.returned (.bool true)) w2 from ⟨rfl, st, HW2.out, HB2.out⟩)
    clear hst
    go_wp2_with fail
    go_ret
    exact HD.out
  | some r =>
    have HST := hide hst
    have HSET := hide (HW2.out.sets a r hal hst)
    have hsm := HSET.out.1.small
    clear hst
    obtain ⟨S1, g1, cap1, N, gr1, m1⟩ := r
    obtain ⟨k1, k2, k3, k4⟩ := Rm.full ⟨HW2.out, HB2.out⟩ hal HST.out
    dsimp only at k1 k2 k3 HSET hsm
    go_upto_region 19 with (fail)
    have hrm := (show Rm w0 W st w2.drew from ⟨HW2.out.keep ((Below.refl _ _).drew), HB2.out.drew⟩)
    clear HW2 HB2 HBX2 c0 c1 c2 c3 c4 c5 c6 HSET
    go_region_law (first
      | (go_simp; go_at_call 34; refine (clone_any _ ((by assumption : Rm w0 W st _).wd.sets a _ hal HST.out).1).mono ?_; rintro e w5 ⟨S2, g2, cap2, rfl, hS2, hg2, hs2, hb5⟩; have h90 := (by assumption : Rm w0 W st _).wd.fresh hS2 hg2; have hz2 := (by assumption : Rm w0 W st _).wd.size; have hrm5 := Rm.keep (by assumption : Rm w0 W st _) hb5; obtain ⟨l1, l2, l3, l4⟩ := Rm.full hrm5 hal HST.out; dsimp only at l1 l2 l3; clear hb5)
      | (go_simp; go_at_call 90; refine (ref_clone _ ((by assumption : Rm w0 W st _).wd.sets a _ hal HST.out).2.1 hsm).mono ?_; rintro e w6 ⟨gr2, rfl, hgr2, ho2, hb6⟩; have hrm6 := Rm.keep (by assumption : Rm w0 W st _) hb6; have hs3 := SetAt.keep hs2 hb6; obtain ⟨l1, l2, l3, l4⟩ := Rm.full hrm6 hal HST.out; dsimp only at l1 l2 l3; clear hb6)
      | (go_simp; go_at_call 89; refine (put_ok _ (by assumption : Rm w0 W st _).wd hdl hs3 (ho2) ⟨by omega, by omega⟩ (fun i s hi _ hs => h90 i s hi hs)).mono ?_; rintro e w7 ⟨rfl, hw7, hb7⟩; have hD : Done w0 W (.returned (.bool true)) w7 := ⟨rfl, _, hw7, (by assumption : Rm w0 W st _).bel.trans hb7⟩))
    all_goals
      have HD := hide hD
      clear hD
      go_wp2_with fail
      go_ret
      exact HD.out
set_option maxRecDepth 100000 in
set_option maxHeartbeats 1000000 in
theorem makes_not (w0 w : World) (E : Nat → Addr) (hE : Errs w0 E allErrs) (hT : DeBr w0) (hg : 25 ≤ w0.heap.size) (hb : Below w0.heap.size w0 w) {W : Nat} {st : Nat → Option SlotR} (hW : Wd w w0.heap.size W st) (s t dst n : Int) (lst bv : Value) :
    Calls Tryd.prog 73 #[.pointer (some ⟨W, 0, none⟩), OpV 18 s t dst n lst bv] w fun e w' => Done w0 W e w' := by
  have HEW := hide hE
  have HTW := hide hT
  have HB0 := hide hb
  have HW := hide hW
  have hz := hW.size
  clear hE hT hb hW
  go_enter Tryd.func73, Tryd.ntmps73
  go_upto_region 1 with (fail)
  have hbx := (Below.refl w.heap.size w).alloc (Nat.le_refl _) (opBox 18 s t dst n lst bv)
  have hbox : (w.alloc (opBox 18 s t dst n lst bv)).heap[w.heap.size]? = some (opBox 18 s t dst n lst bv) := heap_new rfl _
  have HW1 := hide (HW.out.keep hbx)
  have HB1 := hide (HB0.out.trans (hbx.mono hz))
  obtain ⟨c0, c1, c2, c3, c4, c5, c6⟩ := cells7 hbox
  have HBOX := hide hbox
  clear hbx hbox HW HB0
  generalize w.alloc (opBox 18 s t dst n lst bv) = w1 at *
  obtain ⟨a, ha⟩ : ∃ a, (s % 4).toNat = a := ⟨_, rfl⟩
  obtain ⟨b, hb'⟩ : ∃ b, (t % 4).toNat = b := ⟨_, rfl⟩
  obtain ⟨d, hd⟩ : ∃ d, (dst % 4).toNat = d := ⟨_, rfl⟩
  have HSA := hide (fun q => slot_any (w1.drewN q) s)
  have HSB := hide (fun q => slot_any (w1.drewN q) t)
  have HSD := hide (fun q => slot_any (w1.drewN q) dst)
  rw [ha] at HSA
  rw [hb'] at HSB
  rw [hd] at HSD
  have hal : a < 4 := by omega
  have hbl : b < 4 := by omega
  have hdl : d < 4 := by omega
  have hai : (a : Int) < 4 := by omega
  have hbi : (b : Int) < 4 := by omega
  have hdi : (d : Int) < 4 := by omega
  clear ha hb' hd
  go_quiet (first | (go_at_call 88; with_reducible exact Calls.quiet_of_same ((HSA.out _).mono (fun _ _ h => ⟨h.1, h.2.symm⟩))) | (go_at_call 88; with_reducible exact Calls.quiet_of_same ((HSB.out _).mono (fun _ _ h => ⟨h.1, h.2.symm⟩))) | (go_at_call 88; with_reducible exact Calls.quiet_of_same ((HSD.out _).mono (fun _ _ h => ⟨h.1, h.2.symm⟩))))
  have HW2 := hide (HW1.out.keep (below_drewN (Below.refl _ _) nq))
  have HB2 := hide (below_drewN HB1.out nq)
  have HBX2 := hide (show (w1.drewN nq).heap[w.heap.size]? = some (opBox 18 s t dst n lst bv) from HBOX.out)
  clear HW1 HB1 HBOX HSA HSB HSD c0 c1 c2 c3 c4 c5 c6
  generalize w1.drewN nq = w2 at *
  obtain ⟨c0, c1, c2, c3, c4, c5, c6⟩ := cells7 HBX2.out
  cases hst : st a with
  | none =>
    obtain ⟨k1, k4⟩ := Rm.void ⟨HW2.out, HB2.out⟩ hal hst
    have HD := hide (show Done w0 W (.returned (.bool true)) w2 from ⟨rfl, st, HW2.out, HB2.out⟩)
    clear hst
    go_wp2_with fail
    go_ret
    exact HD.out
  | some r =>
    have HST := hide hst
    have HSET := hide (HW2.out.sets a r hal hst)
    have hsm := HSET.out.1.small
    clear hst
    obtain ⟨S1, g1, cap1, N, gr1, m1⟩ := r
    obtain ⟨k1, k2, k3, k4⟩ := Rm.full ⟨HW2.out, HB2.out⟩ hal HST.out
    dsimp only at k1 k2 k3 HSET hsm
    go_upto_region 21 with (fail)
    have hrm := (show Rm w0 W st w2.drew from ⟨HW2.out.keep ((Below.refl _ _).drew), HB2.out.drew⟩)
    clear HW2 HB2 HBX2 c0 c1 c2 c3 c4 c5 c6 HSET
    go_region_law (first
      | (go_simp; go_at_call 25; refine (not_any _ ((by assumption : Rm w0 W st _).wd.sets a _ hal HST.out).1).mono ?_; rintro e w5 ⟨S2, g2, rfl, hS2, hg2, hs2, hb5⟩; have h91 := (by assumption : Rm w0 W st _).wd.fresh hS2 hg2; have hz2 := (by assumption : Rm w0 W st _).wd.size; have hrm5 := Rm.keep (by assumption : Rm w0 W st _) hb5; obtain ⟨l1, l2, l3, l4⟩ := Rm.full hrm5 hal HST.out; dsimp only at l1 l2 l3; clear hb5)
      | (go_simp; go_at_call 91; refine (ref_not _ ((by assumption : Rm w0 W st _).wd.sets a _ hal HST.out).2.1 hsm).mono ?_; rintro e w6 ⟨gr2, rfl, hgr2, ho2, hb6⟩; have hrm6 := Rm.keep (by assumption : Rm w0 W st _) hb6; have hs3 := SetAt.keep hs2 hb6; obtain ⟨l1, l2, l3, l4⟩ := Rm.full hrm6 hal HST.out; dsimp only at l1 l2 l3; clear hb6)
      | (go_simp; go_at_call 89; refine (put_ok _ (by assumption : Rm w0 W st _).wd hdl hs3 (ROwn.congr ho2 (k := neg m1 N) (fun i hi => by unfold neg; rw [decide_eq_true hi]; rfl)) ⟨by omega, by omega⟩ (fun i s hi _ hs => h91 i s hi hs)).mono ?_; rintro e w7 ⟨rfl, hw7, hb7⟩; have hD : Done w0 W (.returned (.bool true)) w7 := ⟨rfl, _, hw7, (by assumption : Rm w0 W st _).bel.trans hb7⟩))
    all_goals
      have HD := hide hD
      clear hD
      go_wp2_with fail
      go_ret
      exact HD.out
set_option maxRecDepth 100000 in
set_option maxHeartbeats 1000000 in
theorem makes_back (w0 w : World) (E : Nat → Addr) (hE : Errs w0 E allErrs) (hT : DeBr w0) (hg : 25 ≤ w0.heap.size) (hb : Below w0.heap.size w0 w) {W : Nat} {st : Nat → Option SlotR} (hW : Wd w w0.heap.size W st) (s t dst n : Int) (lst bv : Value) :
    Calls Tryd.prog 73 #[.pointer (some ⟨W, 0, none⟩), OpV 21 s t dst n lst bv] w fun e w' => Done w0 W e w' := by
  have HEW := hide hE
  have HTW := hide hT
  have HB0 := hide hb
  have HW := hide hW
  have hz := hW.size
  clear hE hT hb hW
  go_enter Tryd.func73, Tryd.ntmps73
  go_upto_region 1 with (fail)
  have hbx := (Below.refl w.heap.size w).alloc (Nat.le_refl _) (opBox 21 s t dst n lst bv)
  have hbox : (w.alloc (opBox 21 s t dst n lst bv)).heap[w.heap.size]? = some (opBox 21 s t dst n lst bv) := heap_new rfl _
  have HW1 := hide (HW.out.keep hbx)
  have HB1 := hide (HB0.out.trans (hbx.mono hz))
  obtain ⟨c0, c1, c2, c3, c4, c5, c6⟩ := cells7 hbox
  have HBOX := hide hbox
  clear hbx hbox HW HB0
  generalize w.alloc (opBox 21 s t dst n lst bv) = w1 at *
  obtain ⟨a, ha⟩ : ∃ a, (s % 4).toNat = a := ⟨_, rfl⟩
  obtain ⟨b, hb'⟩ : ∃ b, (t % 4).toNat = b := ⟨_, rfl⟩
  obtain ⟨d, hd⟩ : ∃ d, (dst % 4).toNat = d := ⟨_, rfl⟩
  have HSA := hide (fun q => slot_any (w1.drewN q) s)
  have HSB := hide (fun q => slot_any (w1.drewN q) t)
  have HSD := hide (fun q => slot_any (w1.drewN q) dst)
  rw [ha] at HSA
  rw [hb'] at HSB
  rw [hd] at HSD
  have hal : a < 4 := by omega
  have hbl : b < 4 := by omega
  have hdl : d < 4 := by omega
  have hai : (a : Int) < 4 := by omega
  have hbi : (b : Int) < 4 := by omega
  have hdi : (d : Int) < 4 := by omega
  clear ha hb' hd
  go_quiet (first | (go_at_call 88; with_reducible exact Calls.quiet_of_same ((HSA.out _).mono (fun _ _ h => ⟨h.1, h.2.symm⟩))) | (go_at_call 88; with_reducible exact Calls.quiet_of_same ((HSB.out _).mono (fun _ _ h => ⟨h.1, h.2.symm⟩))) | (go_at_call 88; with_reducible exact Calls.quiet_of_same ((HSD.out _).mono (fun _ _ h => ⟨h.1, h.2.symm⟩))))
  have HW2 := hide (HW1.out.keep (below_drewN (Below.refl _ _) nq))
  have HB2 := hide (below_drewN HB1.out nq)
  have HBX2 := hide (show (w1.drewN nq).heap[w.heap.size]? = some (opBox 21 s t dst n lst bv) from HBOX.out)
  clear HW1 HB1 HBOX HSA HSB HSD c0 c1 c2 c3 c4 c5 c6
  generalize w1.drewN nq = w2 at *
  obtain ⟨c0, c1, c2, c3, c4, c5, c6⟩ := cells7 HBX2.out
  cases hst : st a with
  | none =>
    obtain ⟨k1, k4⟩ := Rm.void ⟨HW2.out, HB2.out⟩ hal hst
    have HD := hide (show Done w0 W (.returned (.bool true)) w2 from ⟨rfl, st, HW2.out, HB2.out⟩)
    clear hst
    go_wp2_with fail
    go_ret
    exact HD.out
  | some r =>
    have HST := hide hst
    have HSET := hide (HW2.out.sets a r hal hst)
    have hsm := HSET.out.1.small
    clear hst
    obtain ⟨S1, g1, cap1, N, gr1, m1⟩ := r
    obtain ⟨k1, k2, k3, k4⟩ := Rm.full ⟨HW2.out, HB2.out⟩ hal HST.out
    dsimp only at k1 k2 k3 HSET hsm
    have hS1 := HSET.out.1
    have HEN := hide (fun (w3 : World) (hb : Below w2.heap.size w2 w3) => hS1.keep hb)
    go_wp2_with fail
    refine (encode_set w2 hS1).mono ?_
    rintro e w3 ⟨q, hq, rfl, hh, hb3⟩
    have HSRC := hide (src_encS hsm hh)
    obtain ⟨l, hl⟩ : ∃ l, encS N m1 = l := ⟨_, rfl⟩
    have hll : l.length ≤ 140000 := by rw [← hl]; exact encS_len hsm
    rw [hl] at HSRC ⊢
    have HL := hide hl
    have HM3 := hide (Rm.keep (show Rm w0 W st w2 from ⟨HW2.out, HB2.out⟩) hb3)
    have HOFF := hide hS1.off
    clear hl hq hh hb3 hS1 HEN HSET HW2 HB2 HBX2 c0 c1 c2 c3 c4 c5 c6 k1 k2 k3 k4
    have HDE := hide (decode_any w3 _ l HSRC.out (by omega) E (HEW.out.below HM3.out.bel (Nat.le_refl _) (ids_lt hg)) (Nat.le_trans hg HM3.out.wd.size))
    go_wp2_with fail
    refine HDE.out.mono ?_
    rintro e w4 ⟨hd, hb4⟩
    unfold DecOut at hd
    rcases hd with ⟨N2, m2, S2, g2, hN2, hbs2, rfl, hS2, hg2, hs2⟩ | ⟨hno, rfl⟩
    · rw [← HL.out] at hbs2
      obtain rfl : N = N2 := (uv_inj hsm hN2 (show Uv.uv N ++ body N m1 (nb N) = Uv.uv N2 ++ body N2 m2 (nb N2) from hbs2)).1
      have hmm := encS_inj hbs2
      obtain rfl : m1 = m2 := by
        funext i
        by_cases hi : i < N
        · exact hmm i hi
        · rw [HOFF.out i (by omega), hs2.off i (by omega)]
      have HF := hide (fun i s hi (_ : i ≠ d) hs => HM3.out.wd.fresh hS2 hg2 i s hi hs)
      have HGE := hide (show w0.heap.size ≤ S2 ∧ w0.heap.size ≤ g2 from by have := HM3.out.wd.size; exact ⟨by omega, by omega⟩)
      have HM4 := hide (HM3.out.keep hb4)
      have HS4 := hide hs2
      clear hmm hbs2 hS2 hg2 hs2 hb4 HM3 HSRC HDE
      obtain ⟨k1, k2, k3, k4⟩ := Rm.full HM4.out hal HST.out
      dsimp only at k1 k2 k3
      go_wp2_with fail
      refine (ref_clone w4 (HM4.out.wd.sets a _ hal HST.out).2.1 hsm).mono ?_
      rintro e w5 ⟨gr2, rfl, hgr2, ho2, hb5⟩
      have HM5 := hide (HM4.out.keep hb5)
      have HS5 := hide (HS4.out.keep hb5)
      have HO5 := hide ho2
      clear hb5 ho2 hgr2 HM4 HS4 k1 k2 k3 k4
      go_wp2_with fail
      refine (put_ok w5 HM5.out.wd hdl HS5.out HO5.out HGE.out HF.out).mono ?_
      rintro e w6 ⟨rfl, hw6, hb6⟩
      have HD := hide (show Done w0 W (.returned (.bool true)) w6 from ⟨rfl, _, hw6, HM5.out.bel.trans hb6⟩)
      clear hw6 hb6
      go_wp2_with fail
      go_ret
      exact HD.out
    · exact absurd HL.out.symm (hno N m1 hsm)
end Go.Proofs.YtmkbbekeimnajaaDoor

/-! Gr: rows that grow by an element: in place, or in the block made now; the row that they began as stays -/
namespace Go.Proofs.YtmkbbekeimnajaaDoor
open Go.RowKit Ds
theorem below_undrew' {w w' : World} {B : Nat} (h : Below B w.drew w') : Below B w w' := ⟨h.os, h.tape, h.output, h.size, h.block⟩
theorem below_new (w : World) (o : Obj) : Below w.heap.size w (w.drew.alloc o) := below_undrew' ((Below.refl w.drew.heap.size w.drew).alloc (Nat.le_refl _) o)
/-- grown by one element: in its place, or in the block that is made now -/
def Grown (w : World) (B : Nat) (e : TypeId) (sz : Nat) (v : Value) (n : Nat) (xs news : List Value) (g cap : Nat) (w' : World) : Prop :=
  w'.ownsRow B e sz (.slice (some ⟨g, 0, none⟩) (n + 1) cap) (n + 1) (xs ++ news) ∧
    ((v = .slice (some ⟨g, 0, none⟩) n cap ∧ w.grownBy w' (some g)) ∨ (g = w.heap.size ∧ Below w.heap.size w w'))
set_option maxRecDepth 100000 in
theorem run_grow (w : World) (B : Nat) (t ty e : TypeId) (i0 : TypeInfo) (z : Value) (sz bytes : Nat) (ht : Tryd.prog.underlying t = some (.slice e)) (hi : Tryd.prog.info? e = some i0) (hz0 : i0.zero = some z)
    (hz1 : i0.size = sz) (hz2 : i0.bytes = bytes) (hzs : z.cells.size = sz) (hsz : 0 < sz) (hb16 : bytes ≤ 32) (v : Value) (n : Nat) (xs : List Value) (hown : w.ownsRow B e sz v n xs) (ad : Addr) (c : Nat) (news : List Value) (hnl : news.length = sz)
    (hnews : ∀ j u, news[j]? = some u → w.cell? (ad.add j) = some u) (hone : ∀ u ∈ news, u.oneCell' = true) (hl : n + 1 ≤ 4398046511104) (hB : B ≤ w.heap.size) :
    ∃ g cap w', (Builtin.append_ #[t, t] ty #[v, .slice (some ad) 1 c]).run Tryd.prog w = .ok (.slice (some ⟨g, 0, none⟩) (n + 1) cap) w' ∧ Grown w B e sz v n xs news g cap w' := by
  have hmul : (n + 1) * bytes ≤ 140737488355328 := by
    have h1 : (n + 1) * bytes ≤ 4398046511104 * 32 := Nat.mul_le_mul hl hb16
    omega
  obtain ⟨g, cap, w', hr, h2, h3, h4, h5⟩ := run_append_lies (P := Tryd.prog) w t ty B e i0 z sz bytes ht hi hz0 hz1 hz2 hzs hsz v n xs hown ad 1 c news (by rw [Nat.one_mul]; exact hnl) hnews hone (by decide) (by simp only [maxLen]; omega) hmul hB _ rfl
  refine ⟨g, cap, w', hr, h2, ?_⟩
  have mk : ∀ (v1 : Value) (w1 : World), (Builtin.append_ #[t, t] ty #[v, .slice (some ad) 1 c]).run Tryd.prog w = .ok v1 w1 → v1 = .slice (some ⟨g, 0, none⟩) (n + 1) cap ∧ w1 = w' := by
    intro v1 w1 h
    rw [hr] at h
    injection h with h1 h2
    exact ⟨h1.symm, h2.symm⟩
  rcases hown.2 with ⟨rfl, h0⟩ | ⟨g0, cap0, cur0, rfl, hb, hh, hn, hm, hs, htk⟩
  · have hb1 : 1 * i0.bytes ≤ 281474976710656 := by rw [hz2, Nat.one_mul]; omega
    obtain ⟨e1, e2⟩ := mk _ _ (run_append_nil (P := Tryd.prog) w t ty e i0 z ht hi hz0 ad 1 c news (by rw [hz1, Nat.one_mul]; exact hnl) hnews (by decide) (by decide) hb1)
    simp only [Value.slice.injEq, Option.some.injEq, Addr.mk.injEq] at e1
    exact .inr ⟨e1.1.1.symm, e2 ▸ below_new w _⟩
  · by_cases hroom : n + 1 ≤ cap0
    · have hfit : n * sz + sz ≤ cap0 * sz := by
        have := Nat.mul_le_mul_right sz hroom
        rw [Nat.add_mul, Nat.one_mul] at this
        exact this
      obtain ⟨e1, e2⟩ := mk _ _ (run_append_room (P := Tryd.prog) w t ty e i0 ht hi g0 n cap0 cur0 hh ad 1 c news (by rw [hz1, Nat.one_mul]; exact hnl) hnews hone hroom (by rw [hz1, hs, hnl]; exact hfit))
      simp only [Value.slice.injEq, Option.some.injEq, Addr.mk.injEq] at e1
      obtain ⟨⟨rfl, _⟩, _, rfl⟩ := e1
      exact .inl ⟨rfl, h3⟩
    · have holds : ∀ j u, xs[j]? = some u → w.cell? ((⟨g0, 0, none⟩ : Addr).add j) = some u := World.ownsRow.cells hown (g := g0) rfl
      obtain ⟨e1, e2⟩ := mk _ _ (run_append_grow (P := Tryd.prog) w t ty e i0 z ht hi hz0 ⟨g0, 0, none⟩ n cap0 xs (by rw [hz1]; exact hown.1) holds ad 1 c news (by rw [hz1, Nat.one_mul]; exact hnl) hnews (by omega) (by omega) (growslice_fits (by omega) (by rw [hz2]; exact hmul)))
      simp only [Value.slice.injEq, Option.some.injEq, Addr.mk.injEq] at e1
      exact .inr ⟨e1.1.1.symm, e2 ▸ below_new w _⟩
theorem Grown.by {w w' : World} {B g cap n sz : Nat} {e : TypeId} {v : Value} {xs news : List Value} (h : Grown w B e sz v n xs news g cap w') : w.grownBy w' v.ownBlock := by
  rcases h.2 with ⟨rfl, h1⟩ | ⟨_, h1⟩
  · exact h1
  · exact grown_of_below h1 |> fun k => ⟨h1.os, h1.tape, h1.output, h1.size, fun k hk _ => h1.block k hk⟩
theorem Grown.keepTy {w w' : World} {B g cap n sz : Nat} {e t : TypeId} {v : Value} {xs news : List Value} (h : Grown w B e sz v n xs news g cap w') (ho : w.ownsRow B e sz v n xs) (ht : e ≠ t) : KeepTy w w' t :=
  keepTy_grown h.by (notTy_row ho ht)
/-- the first row stays where another slice of it grows -/
structure Ap (w0 w : World) (B : Nat) (e : TypeId) (sz : Nat) (V : Value) (n : Nat) (C : List Value) (a : Value) (i : Nat) : Prop where
  tail : ∃ tl, w.ownsRow B e sz a (n + i) (C ++ tl)
  orig : w.ownsRow B e sz V n C
  link : (∃ g cap, V = .slice (some ⟨g, 0, none⟩) n cap ∧ a = .slice (some ⟨g, 0, none⟩) (n + i) cap) ∨ (∀ g, a.ownBlock = some g → V.ownBlock ≠ some g ∧ w0.heap.size ≤ g)
theorem Ap.start {w0 w : World} {B sz n : Nat} {e : TypeId} {V : Value} {C : List Value} (h : w.ownsRow B e sz V n C) : Ap w0 w B e sz V n C V 0 := by
  refine ⟨⟨[], by rw [List.append_nil]; exact h⟩, h, ?_⟩
  rcases h.2 with ⟨rfl, _⟩ | ⟨g, cap, cur, rfl, _⟩
  · exact .inr (fun g hg => by cases hg)
  · exact .inl ⟨g, cap, rfl, rfl⟩
theorem Ap.keepTy {w0 w w' : World} {B sz n i : Nat} {e : TypeId} {V a : Value} {C : List Value} (h : Ap w0 w B e sz V n C a i) (hk : KeepTy w w' e) : Ap w0 w' B e sz V n C a i := by
  obtain ⟨tl, ht⟩ := h.tail
  exact ⟨⟨tl, row_keepTy ht hk⟩, row_keepTy h.orig hk, h.link⟩
theorem row_trunc {w : World} {B sz n i g cap : Nat} {e : TypeId} {C tl : List Value} (h : w.ownsRow B e sz (.slice (some ⟨g, 0, none⟩) (n + i) cap) (n + i) (C ++ tl)) (hC : C.length = n * sz) : w.ownsRow B e sz (.slice (some ⟨g, 0, none⟩) n cap) n C := by
  refine ⟨hC, ?_⟩
  rcases h.2 with ⟨h, _⟩ | ⟨g', cap', cur, hv, hb, hh, hn, hmx, hs, ht⟩
  · cases h
  · simp only [Value.slice.injEq, Option.some.injEq, Addr.mk.injEq] at hv
    obtain ⟨⟨rfl, _⟩, _, rfl⟩ := hv
    refine .inr ⟨g, cap, cur, rfl, hb, hh, by omega, hmx, hs, ?_⟩
    have h1 : cur.toList.take (n * sz) = (cur.toList.take ((n + i) * sz)).take (n * sz) := by
      rw [List.take_take, Nat.min_eq_left (Nat.mul_le_mul_right _ (by omega))]
    rw [h1, ht, ← hC, List.take_left]
theorem Ap.grow {w0 w w' : World} {B sz n i g cap : Nat} {e : TypeId} {V a : Value} {C news tl : List Value} (h : Ap w0 w B e sz V n C a i) (hg : Grown w B e sz a (n + i) (C ++ tl) news g cap w') (hs : w0.heap.size ≤ w.heap.size) :
    Ap w0 w' B e sz V n C (.slice (some ⟨g, 0, none⟩) (n + (i + 1)) cap) (i + 1) := by
  have hO := hg.1
  rw [Nat.add_assoc] at hO
  have hOr := h.orig
  refine ⟨⟨tl ++ news, by rw [← List.append_assoc]; exact hO⟩, ?_, ?_⟩
  · rcases hg.2 with ⟨rfl, h1⟩ | ⟨rfl, h1⟩
    · rcases h.link with ⟨g1, cap1, rfl, h2⟩ | h2
      · simp only [Value.slice.injEq, Option.some.injEq, Addr.mk.injEq] at h2
        obtain ⟨⟨rfl, _⟩, _, rfl⟩ := h2
        rw [List.append_assoc] at hO
        exact row_trunc hO hOr.1
      · refine World.ownsRow.kept hOr h1 ?_
        exact .inr (h2 g rfl).1
    · exact World.ownsRow.kept (row := none) hOr ⟨h1.os, h1.tape, h1.output, h1.size, fun k hk _ => h1.block k hk⟩ (by cases hv : V.ownBlock <;> simp)
  · rcases hg.2 with ⟨rfl, h1⟩ | ⟨rfl, h1⟩
    · rcases h.link with ⟨g1, cap1, rfl, h2⟩ | h2
      · simp only [Value.slice.injEq, Option.some.injEq, Addr.mk.injEq] at h2
        obtain ⟨⟨rfl, _⟩, _, rfl⟩ := h2
        exact .inl ⟨_, _, rfl, rfl⟩
      · exact .inr (fun k hk => h2 k hk)
    · refine .inr (fun k hk => ?_)
      simp only [Value.ownBlock, Option.some.injEq] at hk
      subst hk
      refine ⟨fun e => ?_, hs⟩
      have := (World.ownsRow.lt hOr _ e).2
      omega
theorem Ap.foot {w0 w w' : World} {B sz n i g cap : Nat} {e : TypeId} {V a : Value} {C xs news : List Value} {S : Nat → Prop} (h : Ap w0 w B e sz V n C a i) (hg : Grown w B e sz a (n + i) xs news g cap w') (hf : Foot w0 w S) (hS : ∀ k, V.ownBlock = some k → S k) : Foot w0 w' S := by
  refine hf.grown hg.by (fun k hk => ?_)
  rcases h.link with ⟨g1, cap1, rfl, rfl⟩ | h2
  · exact .inl (hS k hk)
  · exact .inr (h2 k hk).2
end Go.Proofs.YtmkbbekeimnajaaDoor

/-! Tr: three rows of one kind, their headers in an array -/
namespace Go.Proofs.YtmkbbekeimnajaaDoor
open Go.RowKit Ds
structure Trip (B : Nat) (e : TypeId) (sz A : Nat) (ta : TypeId) (v : Value) (C0 : List Value) (V : Nat → Value) (n : Nat) (C : Nat → List Value) (K : Nat) (wr : World) : Prop where
  arr : wr.heap[A]? = some (.cells #[V 0, V 1, V 2] ta (0, 0))
  ref : wr.ownsRow B e sz v n C0
  row : ∀ k, k < K → wr.ownsRow B e sz (V k) n (C k)
  ap : ∀ j k, j < K → k < K → j ≠ k → ∀ q, (V j).ownBlock = some q → (V k).ownBlock ≠ some q
  apr : ∀ k, k < K → ∀ q, (V k).ownBlock = some q → v.ownBlock ≠ some q
section
variable {B sz A n K : Nat} {e ta : TypeId} {v : Value} {C0 : List Value} {V : Nat → Value} {C : Nat → List Value} {wr w' : World}
theorem Trip.keepTy (h : Trip B e sz A ta v C0 V n C K wr) (h1 : KeepTy wr w' e) (h2 : KeepTy wr w' ta) : Trip B e sz A ta v C0 V n C K w' :=
  ⟨h2 _ _ _ h.arr, row_keepTy h.ref h1, fun k hk => row_keepTy (h.row k hk) h1, h.ap, h.apr⟩
theorem Trip.keep (h : Trip B e sz A ta v C0 V n C K wr) (hb : Below wr.heap.size wr w') : Trip B e sz A ta v C0 V n C K w' := h.keepTy (keepTy_below hb _) (keepTy_below hb _)
theorem Trip.far (h : Trip B e sz A ta v C0 V n C K wr) {p i : Nat} {cs : Array Value} {t0 : TypeId} {fr : Nat × Nat} (hp : wr.heap[p]? = some (.cells cs t0 fr)) (h1 : t0 ≠ e) (h2 : t0 ≠ ta) (x : Value) : Trip B e sz A ta v C0 V n C K (wr.setCell ⟨p, i, none⟩ x) :=
  h.keepTy (keepTy_at hp h1 x) (keepTy_at hp h2 x)
theorem row_base {w : World} {B B' n : Nat} {v : Value} {xs : List Value} (h : w.ownsRow B' e sz v n xs) (hB : B ≤ B') : w.ownsRow B e sz v n xs := by
  refine ⟨h.1, ?_⟩
  rcases h.2 with h1 | ⟨g, cap, cur, h1, h2, h3⟩
  · exact .inl h1
  · exact .inr ⟨g, cap, cur, h1, Nat.le_trans hB h2, h3⟩
/-- one more row -/
theorem Trip.add {w3 : World} {nv : Value} {CC : List Value} {B' : Nat} (h : Trip B e sz A ta v C0 V n C K wr) (h3 : Trip B e sz A ta v C0 V n C K w3) (hK : K < 3) (hr : w3.ownsRow B' e sz nv n CC) (hB : B ≤ B') (hB' : wr.heap.size ≤ B') (hne : ta ≠ e) :
    Trip B e sz A ta v C0 (fun j => if j = K then nv else V j) n (fun j => if j = K then CC else C j) (K + 1) (w3.setCell ⟨A, K, none⟩ nv) := by
  have hk := keepTy_at (i := K) h3.arr hne nv
  have hlt : ∀ k, k < K → ∀ q, (V k).ownBlock = some q → q < wr.heap.size := fun k hk q hq => (World.ownsRow.lt (h.row k hk) q hq).2
  have hge : ∀ q, nv.ownBlock = some q → wr.heap.size ≤ q := fun q hq => Nat.le_trans hB' (World.ownsRow.lt hr q hq).1
  have hv : ∀ q, v.ownBlock = some q → q < wr.heap.size := fun q hq => (World.ownsRow.lt h.ref q hq).2
  refine ⟨?_, row_keepTy h3.ref hk, fun k hkK => ?_, fun j k hj hkK hjk q hq => ?_, fun k hkK q hq => ?_⟩
  · rw [heap_set h3.arr]
    obtain rfl | rfl | rfl : K = 0 ∨ K = 1 ∨ K = 2 := by omega
    · rfl
    · rfl
    · rfl
  · by_cases e1 : k = K
    · simp only [e1, if_true]
      exact row_keepTy (row_base hr hB) hk
    · simp only [if_neg e1]
      exact row_keepTy (h3.row k (by omega)) hk
  · by_cases e1 : j = K
    · simp only [e1, if_true] at hq
      simp only [if_neg (show k ≠ K by omega)]
      intro e2
      have := hge q hq
      have := hlt k (by omega) q e2
      omega
    · simp only [if_neg e1] at hq
      by_cases e2 : k = K
      · simp only [e2, if_true]
        intro e3
        have := hge q e3
        have := hlt j (by omega) q hq
        omega
      · simp only [if_neg e2]
        exact h.ap j k (by omega) (by omega) hjk q hq
  · by_cases e1 : k = K
    · simp only [e1, if_true] at hq
      intro e2
      have := hge q hq
      have := hv q e2
      omega
    · simp only [if_neg e1] at hq
      exact h.apr k (by omega) q hq
/-- a cell of a row is written -/
theorem Trip.put {k g c : Nat} (h : Trip B e sz A ta v C0 V n C K wr) (hk : k < K) (hV : V k = .slice (some ⟨g, 0, none⟩) n c) (hne : ta ≠ e) (j : Nat) (x : Value) :
    Trip B e sz A ta v C0 V n (fun i => if i = k then (C k).set j x else C i) K (wr.setCell ⟨g, j, none⟩ x) := by
  have hrow := h.row k hk
  rw [hV] at hrow
  have hg : ∃ cur : Array Value, wr.heap[g]? = some (.cells cur e (0, 0)) := by
    rcases hrow.2 with ⟨h0, _⟩ | ⟨g', c', cur, hv, _, hh, _⟩
    · cases h0
    · simp only [Value.slice.injEq, Option.some.injEq, Addr.mk.injEq] at hv
      obtain ⟨⟨rfl, _⟩, _⟩ := hv
      exact ⟨cur, hh⟩
  obtain ⟨cur, hg⟩ := hg
  have hb : (V k).ownBlock = some g := by rw [hV]; rfl
  refine ⟨heap_else h.arr ?_ x, ownsRow_setCell_other h.ref (fun e1 => h.apr k hk g hb e1) _, fun i hi => ?_, h.ap, h.apr⟩
  · rintro rfl
    have := h.arr
    rw [hg] at this
    simp only [Option.some.injEq, Obj.cells.injEq] at this
    exact hne this.2.1.symm
  · by_cases e1 : i = k
    · simp only [e1, if_true]
      rw [hV]
      exact row_put hrow j x
    · simp only [if_neg e1]
      exact ownsRow_setCell_other (h.row i hi) (fun e2 => h.ap k i hk hi (fun e3 => e1 e3.symm) g hb e2) _
/-- behind what was done to row k's block alone -/
theorem Trip.foot {k : Nat} (h : Trip B e sz A ta v C0 V n C K wr) (hk : k < K) (hf : ∀ (q : Nat) (cs : Array Value) (t : TypeId) (fr : Nat × Nat), wr.heap[q]? = some (.cells cs t fr) → t = e ∨ t = ta → (V k).ownBlock ≠ some q → w'.heap[q]? = wr.heap[q]?)
    (ho : w'.ownsRow B e sz (V k) n (C k)) (hne : ta ≠ e) : Trip B e sz A ta v C0 V n C K w' := by
  have keep : ∀ (u : Value) (us : List Value), wr.ownsRow B e sz u n us → (∀ q, u.ownBlock = some q → (V k).ownBlock ≠ some q) → w'.ownsRow B e sz u n us := by
    intro u us hu hq
    refine ⟨hu.1, ?_⟩
    rcases hu.2 with h1 | ⟨g, cap, cur, rfl, h2, h3, h4⟩
    · exact .inl h1
    · exact .inr ⟨g, cap, cur, rfl, h2, (hf g cur e _ h3 (.inl rfl) (hq g rfl)).trans h3, h4⟩
  refine ⟨(hf A _ ta _ h.arr (.inr rfl) ?_).trans h.arr, keep v C0 h.ref (fun q hq e1 => h.apr k hk q e1 hq), fun i hi => ?_, h.ap, h.apr⟩
  · intro e1
    rcases (h.row k hk).2 with ⟨h0, _⟩ | ⟨g, cap, cur, h1, _, h3, _⟩
    · rw [h0] at e1; cases e1
    · rw [h1] at e1
      simp only [Value.ownBlock, Option.some.injEq] at e1
      subst e1
      have := h.arr
      rw [h3] at this
      simp only [Option.some.injEq, Obj.cells.injEq] at this
      exact hne this.2.1.symm
  · by_cases e1 : i = k
    · subst e1; exact ho
    · exact keep _ _ (h.row i hi) (fun q hq e2 => h.ap i k hi hk e1 q hq e2)
theorem Trip.hdr (h : Trip B e sz A ta v C0 V n C K wr) {k : Nat} (hk : k < 3) : wr.cell? ⟨A, k, none⟩ = some (V k) ∧ wr.frozen? ⟨A, k, none⟩ = false := by
  refine ⟨?_, free_at h.arr k⟩
  rw [cell_at h.arr]
  obtain rfl | rfl | rfl : k = 0 ∨ k = 1 ∨ k = 2 := by omega
  · rfl
  · rfl
  · rfl
/-- rows that are written over with a mark up to a place -/
def mk (x : Value) (j : Nat) (L : List Value) : List Value := List.replicate j x ++ L.drop j
theorem mk_zero (x : Value) (L : List Value) : mk x 0 L = L := by simp [mk]
theorem mk_len (x : Value) {j : Nat} {L : List Value} (h : j ≤ L.length) : (mk x j L).length = L.length := by simp [mk]; omega
theorem mk_set (x : Value) {j : Nat} {L : List Value} (h : j < L.length) : (mk x j L).set j x = mk x (j + 1) L := by
  unfold mk
  rw [List.set_append_right _ _ (by simp), List.length_replicate, Nat.sub_self, List.drop_eq_getElem_cons h, List.set_cons_zero, List.replicate_succ', List.append_assoc]
  rfl
theorem mk_get (x : Value) {i j : Nat} {L : List Value} (h : i < j) : (mk x j L)[i]? = some x := by
  unfold mk
  rw [List.getElem?_append_left (by simpa using h)]
  simp [h]
theorem mk_cell (x : Value) {i j : Nat} {L : List Value} (h : i < L.length) : ∃ y, (mk x j L)[i]? = some y := by
  by_cases h1 : i < j
  · exact ⟨x, mk_get x h1⟩
  · unfold mk
    rw [List.getElem?_append_right (by simp; omega), List.length_replicate, List.getElem?_drop]
    exact ⟨L[j + (i - j)]'(by omega), List.getElem?_eq_getElem _⟩
/-- the contents while row k is written over up to place j -/
def mkC (X : Nat → Value) (L : List Value) (k j : Nat) : Nat → List Value := fun i => if i < k then mk (X i) L.length L else if i = k then mk (X i) j L else L
theorem mkC_zero (X : Nat → Value) (L : List Value) : mkC X L 0 0 = fun _ => L := by
  funext i
  unfold mkC
  rw [if_neg (by omega), mk_zero]
  split <;> rfl
theorem mkC_next (X : Nat → Value) (L : List Value) (k : Nat) : mkC X L k L.length = mkC X L (k + 1) 0 := by
  funext i
  unfold mkC
  rw [mk_zero]
  by_cases h : i < k
  · rw [if_pos h, if_pos (by omega)]
  · rw [if_neg h]
    by_cases h1 : i = k
    · rw [if_pos h1, if_pos (by omega)]
    · rw [if_neg h1, if_neg (by omega)]
      split <;> rfl
theorem mkC_set (X : Nat → Value) (L : List Value) (k : Nat) {j : Nat} (h : j < L.length) : (fun i => if i = k then (mkC X L k j k).set j (X k) else mkC X L k j i) = mkC X L k (j + 1) := by
  funext i
  by_cases e : i = k
  · subst e
    rw [if_pos rfl]
    unfold mkC
    rw [if_neg (by omega), if_pos rfl, if_neg (by omega), if_pos rfl, mk_set _ h]
  · rw [if_neg e]
    unfold mkC
    by_cases h1 : i < k
    · rw [if_pos h1, if_pos h1]
    · rw [if_neg h1, if_neg h1, if_neg e, if_neg e]
theorem mkC_at (X : Nat → Value) (L : List Value) (k j : Nat) : mkC X L k j k = mk (X k) j L := by
  unfold mkC
  rw [if_neg (by omega), if_pos rfl]
theorem mkC_done (X : Nat → Value) (L : List Value) {k i : Nat} (h : i < k) : mkC X L k 0 i = mk (X i) L.length L := by
  unfold mkC
  rw [if_pos h]
end
end Go.Proofs.YtmkbbekeimnajaaDoor

/-! To: what lies in memory while the answers of a set are looked at (40) -/
namespace Go.Proofs.YtmkbbekeimnajaaDoor
open Go.RowKit Ds
/-- a set, the table, and what has been added to the memory -/
structure Rs1 (wb : World) (S g cap n : Nat) (m : Nat → Bool) (wr : World) : Prop where
  set : SetAt wr S g cap n m
  deb : DeBr wr
  size : 15 < wr.heap.size
  below : Below wb.heap.size wb wr
theorem Rs1.keep {wb wr w' : World} {S g cap n : Nat} {m : Nat → Bool} (h : Rs1 wb S g cap n m wr) (hb : Below wr.heap.size wr w') : Rs1 wb S g cap n m w' :=
  ⟨h.set.keep hb, debr_below h.deb hb h.size, Nat.lt_of_lt_of_le h.size hb.size, h.below.trans (hb.mono h.below.size)⟩
theorem SetAt.far {w : World} {S g cap n p i : Nat} {m : Nat → Bool} (h : SetAt w S g cap n m) {cs : Array Value} {t : TypeId} {fr : Nat × Nat} (hp : w.heap[p]? = some (.cells cs t fr)) (h1 : t ≠ 82) (h2 : t ≠ 83) (x : Value) : SetAt (w.setCell ⟨p, i, none⟩ x) S g cap n m := by
  obtain ⟨cur, k1, _⟩ := h.ws
  refine h.same ?_ ?_
  · rw [h.hd]; exact keepTy_at hp h1 x _ _ _ h.hd
  · rw [k1]; exact keepTy_at hp h2 x _ _ _ k1
theorem SetAt.keepTy {w w' : World} {S g cap n : Nat} {m : Nat → Bool} (h : SetAt w S g cap n m) (h1 : KeepTy w w' 82) (h2 : KeepTy w w' 83) : SetAt w' S g cap n m := by
  obtain ⟨cur, k1, _⟩ := h.ws
  refine h.same ?_ ?_
  · rw [h.hd]; exact h1 _ _ _ h.hd
  · rw [k1]; exact h2 _ _ _ k1
theorem row_heap {wr : World} {B e sz k n g c : Nat} {v : Value} {xs : List Value} (h : wr.ownsRow B e sz v n xs) (hv : v = .slice (some ⟨g, 0, none⟩) k c) : ∃ cur : Array Value, wr.heap[g]? = some (.cells cur e (0, 0)) ∧ B ≤ g := by
  subst hv
  rcases h.2 with ⟨h0, _⟩ | ⟨g', c', cur, hv, hb, hh, _⟩
  · cases h0
  · simp only [Value.slice.injEq, Option.some.injEq, Addr.mk.injEq] at hv
    obtain ⟨⟨rfl, _⟩, _⟩ := hv
    exact ⟨cur, hh, hb⟩
structure Tot (w : World) (S g cap n : Nat) (m : Nat → Bool) (v1 v2 v3 : Value) (xs1 : List Int) (xs2 : List (Nat × Nat)) (xs3 : List Nat) (A1 A2 A3 : Nat) (V1 V2 V3 : Nat → Value) (C1 C2 C3 : Nat → List Value) (K : Nat) (wr : World) : Prop where
  set : SetAt wr S g cap n m
  base : w.heap.size ≤ wr.heap.size
  below : Below w.heap.size w wr
  t1 : Trip w.heap.size 3 1 A1 115 v1 (intCells xs1) V1 xs1.length C1 K wr
  t2 : Trip w.heap.size 43 2 A2 116 v2 (runCells xs2) V2 xs2.length C2 K wr
  t3 : Trip w.heap.size 5 1 A3 117 v3 (u8s xs3) V3 xs3.length C3 K wr
  ge : w.heap.size ≤ A1 ∧ w.heap.size ≤ A2 ∧ w.heap.size ≤ A3
section
variable {w wr w' : World} {S g cap n A1 A2 A3 K : Nat} {m : Nat → Bool} {v1 v2 v3 : Value} {xs1 : List Int} {xs2 : List (Nat × Nat)} {xs3 : List Nat} {V1 V2 V3 : Nat → Value} {C1 C2 C3 : Nat → List Value}
theorem Tot.keep (h : Tot w S g cap n m v1 v2 v3 xs1 xs2 xs3 A1 A2 A3 V1 V2 V3 C1 C2 C3 K wr) (hb : Below wr.heap.size wr w') : Tot w S g cap n m v1 v2 v3 xs1 xs2 xs3 A1 A2 A3 V1 V2 V3 C1 C2 C3 K w' :=
  ⟨h.set.keep hb, Nat.le_trans h.base hb.size, h.below.trans (hb.mono h.base), h.t1.keep hb, h.t2.keep hb, h.t3.keep hb, h.ge⟩
def updV (V : Nat → Value) (k : Nat) (u : Value) : Nat → Value := fun j => if j = k then u else V j
theorem upd_const (k : Nat) (L : List Value) : (fun j : Nat => if j = k then L else L) = fun _ => L := by
  funext j
  split <;> rfl
theorem Tot.add {w7 : World} {u1 u2 u3 : Value} {B1 B2 B3 : Nat} (h : Tot w S g cap n m v1 v2 v3 xs1 xs2 xs3 A1 A2 A3 V1 V2 V3 (fun _ => intCells xs1) (fun _ => runCells xs2) (fun _ => u8s xs3) K wr) (hK : K < 3) (hb : Below wr.heap.size wr w7)
    (h1 : w7.ownsRow B1 3 1 u1 xs1.length (intCells xs1)) (h2 : w7.ownsRow B2 43 2 u2 xs2.length (runCells xs2)) (h3 : w7.ownsRow B3 5 1 u3 xs3.length (u8s xs3)) (hB1 : wr.heap.size ≤ B1) (hB2 : wr.heap.size ≤ B2) (hB3 : wr.heap.size ≤ B3) :
    Tot w S g cap n m v1 v2 v3 xs1 xs2 xs3 A1 A2 A3 (updV V1 K u1) (updV V2 K u2) (updV V3 K u3) (fun _ => intCells xs1) (fun _ => runCells xs2) (fun _ => u8s xs3) (K + 1) (((w7.setCell ⟨A1, K, none⟩ u1).setCell ⟨A2, K, none⟩ u2).setCell ⟨A3, K, none⟩ u3) := by
  have hz := h.base
  have h7 := h.keep hb
  have a1 := h7.t1.arr
  have a2' := keepTy_at (i := K) (p := A1) a1 (t := 116) (by decide) u1 _ _ _ h7.t2.arr
  have a3 := keepTy_at (i := K) (p := A1) a1 (t := 117) (by decide) u1 _ _ _ h7.t3.arr
  have a3' := keepTy_at (i := K) (p := A2) a2' (t := 117) (by decide) u2 _ _ _ a3
  have t1 := h.t1.add h7.t1 hK h1 (by omega) hB1 (by decide)
  have t2 := h.t2.add (h7.t2.far (i := K) a1 (by decide) (by decide) u1) hK (row_keepTy h2 (keepTy_at a1 (by decide) u1)) (by omega) hB2 (by decide)
  have t3 := h.t3.add ((h7.t3.far (i := K) a1 (by decide) (by decide) u1).far (i := K) a2' (by decide) (by decide) u2) hK (row_keepTy (row_keepTy h3 (keepTy_at a1 (by decide) u1)) (keepTy_at a2' (by decide) u2)) (by omega) hB3 (by decide)
  rw [upd_const] at t1 t2 t3
  have b1 := keepTy_at (i := K) (p := A2) a2' (t := 115) (by decide) u2 _ _ _ t1.arr
  have s1 := (h7.set.far (i := K) a1 (by decide) (by decide) u1).far (i := K) a2' (by decide) (by decide) u2
  refine ⟨s1.far (i := K) a3' (by decide) (by decide) u3, by rw [World.size_setCell, World.size_setCell, World.size_setCell]; exact h7.base, below_set (below_set (below_set h7.below h.ge.1 _) h.ge.2.1 _) h.ge.2.2 _, ?_, ?_, t3, h.ge⟩
  · exact (t1.far (i := K) a2' (by decide) (by decide) u2).far (i := K) a3' (by decide) (by decide) u3
  · exact t2.far (i := K) a3' (by decide) (by decide) u3
/-- a cell of a row is written -/
theorem Tot.put1 {k g' c : Nat} (h : Tot w S g cap n m v1 v2 v3 xs1 xs2 xs3 A1 A2 A3 V1 V2 V3 C1 C2 C3 K wr) (hk : k < K) (hV : V1 k = .slice (some ⟨g', 0, none⟩) xs1.length c) (j : Nat) (x : Value) :
    Tot w S g cap n m v1 v2 v3 xs1 xs2 xs3 A1 A2 A3 V1 V2 V3 (fun i => if i = k then (C1 k).set j x else C1 i) C2 C3 K (wr.setCell ⟨g', j, none⟩ x) := by
  obtain ⟨cur, hg, hge⟩ := row_heap (h.t1.row k hk) hV
  exact ⟨h.set.far hg (by decide) (by decide) x, by rw [World.size_setCell]; exact h.base, below_set h.below hge _, h.t1.put hk hV (by decide) j x, h.t2.far hg (by decide) (by decide) x, h.t3.far hg (by decide) (by decide) x, h.ge⟩
theorem Tot.put2 {k g' c : Nat} (h : Tot w S g cap n m v1 v2 v3 xs1 xs2 xs3 A1 A2 A3 V1 V2 V3 C1 C2 C3 K wr) (hk : k < K) (hV : V2 k = .slice (some ⟨g', 0, none⟩) xs2.length c) (j : Nat) (x : Value) :
    Tot w S g cap n m v1 v2 v3 xs1 xs2 xs3 A1 A2 A3 V1 V2 V3 C1 (fun i => if i = k then (C2 k).set j x else C2 i) C3 K (wr.setCell ⟨g', j, none⟩ x) := by
  obtain ⟨cur, hg, hge⟩ := row_heap (h.t2.row k hk) hV
  exact ⟨h.set.far hg (by decide) (by decide) x, by rw [World.size_setCell]; exact h.base, below_set h.below hge _, h.t1.far hg (by decide) (by decide) x, h.t2.put hk hV (by decide) j x, h.t3.far hg (by decide) (by decide) x, h.ge⟩
theorem Tot.put3 {k g' c : Nat} (h : Tot w S g cap n m v1 v2 v3 xs1 xs2 xs3 A1 A2 A3 V1 V2 V3 C1 C2 C3 K wr) (hk : k < K) (hV : V3 k = .slice (some ⟨g', 0, none⟩) xs3.length c) (j : Nat) (x : Value) :
    Tot w S g cap n m v1 v2 v3 xs1 xs2 xs3 A1 A2 A3 V1 V2 V3 C1 C2 (fun i => if i = k then (C3 k).set j x else C3 i) K (wr.setCell ⟨g', j, none⟩ x) := by
  obtain ⟨cur, hg, hge⟩ := row_heap (h.t3.row k hk) hV
  exact ⟨h.set.far hg (by decide) (by decide) x, by rw [World.size_setCell]; exact h.base, below_set h.below hge _, h.t1.far hg (by decide) (by decide) x, h.t2.far hg (by decide) (by decide) x, h.t3.put hk hV (by decide) j x, h.ge⟩
theorem runCells_oneCell (x : Int) : ∀ u ∈ [Value.int .i64 x], u.oneCell' = true := fun u hu => by rw [List.mem_singleton.1 hu]; rfl
/-- the three slices that grow -/
structure Aps (w w0 : World) (V1 V2 V3 : Value) (n1 n2 n3 : Nat) (C1 C2 C3 : List Value) (a c d : Value) (i1 i2 i3 : Nat) (wr : World) : Prop where
  p1 : Ap w0 wr w.heap.size 3 1 V1 n1 C1 a i1
  p2 : Ap w0 wr w.heap.size 43 2 V2 n2 C2 c i2
  p3 : Ap w0 wr w.heap.size 5 1 V3 n3 C3 d i3
  foot : Foot w0 wr (fun q => V1.ownBlock = some q ∨ V2.ownBlock = some q ∨ V3.ownBlock = some q)
  base : w.heap.size ≤ w0.heap.size
theorem news_at {w : World} {Y : Nat} {cs : List Value} {t : TypeId} {fr : Nat × Nat} (h : w.heap[Y]? = some (.cells cs.toArray t fr)) : ∀ (j : Nat) (u : Value), cs[j]? = some u → w.cell? ((⟨Y, 0, none⟩ : Addr).add j) = some u := fun j u hj => by
  have e : w.cell? ((⟨Y, 0, none⟩ : Addr).add j) = w.cell? ⟨Y, j, none⟩ := by rw [Addr.add_lit, Nat.zero_add]
  rw [e, cell_at h]
  simpa using hj
section
variable {w0 : World} {U1 U2 U3 a c d : Value} {n1 n2 n3 i1 i2 i3 : Nat} {D1 D2 D3 : List Value}
set_option maxRecDepth 100000 in
theorem Aps.grow1 (h : Aps w w0 U1 U2 U3 n1 n2 n3 D1 D2 D3 a c d i1 i2 i3 wr) (x : Int) (hl : n1 + i1 + 1 ≤ 4398046511104) :
    ∃ a' w', (Builtin.append_ #[22, 22] 22 #[a, .slice (some ⟨wr.heap.size, 0, none⟩) 1 1]).run Tryd.prog (wr.alloc (.cells #[.int .i64 x] 3)) = .ok a' w' ∧ Aps w w0 U1 U2 U3 n1 n2 n3 D1 D2 D3 a' c d (i1 + 1) i2 i3 w' := by
  obtain ⟨i0, hi, hz0, hz1, hz2⟩ := info_parts info3
  have hka := fun t => keepTy_alloc' wr (.cells #[.int .i64 x] 3) t
  have q1 := h.p1.keepTy (hka 3)
  obtain ⟨tl, ht⟩ := q1.tail
  have hz := h.foot.size
  have hb := h.base
  have hf := h.foot.keep ((Below.refl wr.heap.size wr).alloc (Nat.le_refl _) (.cells #[.int .i64 x] 3))
  obtain ⟨g, cp, w', hr, hG⟩ := run_grow (wr.alloc (.cells #[.int .i64 x] 3)) w.heap.size 22 22 3 i0 _ 1 8 Tryd.underlying22 hi hz0 hz1 hz2 rfl (by decide) (by decide) a (n1 + i1) (D1 ++ tl) ht ⟨wr.heap.size, 0, none⟩ 1 [.int .i64 x] rfl (news_at (fr := (0, 0)) (heap_new rfl _)) (fun u hu => by rw [List.mem_singleton.1 hu]; rfl) hl (by rw [World.size_alloc]; omega)
  exact ⟨_, w', hr, ⟨q1.grow hG (by rw [World.size_alloc]; omega), (h.p2.keepTy (hka 43)).keepTy (hG.keepTy ht (by decide)), (h.p3.keepTy (hka 5)).keepTy (hG.keepTy ht (by decide)), q1.foot hG hf (fun k hk => .inl hk), hb⟩⟩
set_option maxRecDepth 100000 in
theorem Aps.grow2 (h : Aps w w0 U1 U2 U3 n1 n2 n3 D1 D2 D3 a c d i1 i2 i3 wr) (x y : Int) (hl : n2 + i2 + 1 ≤ 4398046511104) :
    ∃ c' w', (Builtin.append_ #[41, 41] 41 #[c, .slice (some ⟨wr.heap.size, 0, none⟩) 1 1]).run Tryd.prog (wr.alloc (.cells #[.int .i64 x, .int .i64 y] 43)) = .ok c' w' ∧ Aps w w0 U1 U2 U3 n1 n2 n3 D1 D2 D3 a c' d i1 (i2 + 1) i3 w' := by
  obtain ⟨i0, hi, hz0, hz1, hz2⟩ := info_parts info43
  have hka := fun t => keepTy_alloc' wr (.cells #[.int .i64 x, .int .i64 y] 43) t
  have q1 := h.p2.keepTy (hka 43)
  obtain ⟨tl, ht⟩ := q1.tail
  have hz := h.foot.size
  have hb := h.base
  have hf := h.foot.keep ((Below.refl wr.heap.size wr).alloc (Nat.le_refl _) (.cells #[.int .i64 x, .int .i64 y] 43))
  obtain ⟨g, cp, w', hr, hG⟩ := run_grow (wr.alloc (.cells #[.int .i64 x, .int .i64 y] 43)) w.heap.size 41 41 43 i0 _ 2 16 Tryd.underlying41 hi hz0 hz1 hz2 rfl (by decide) (by decide) c (n2 + i2) (D2 ++ tl) ht ⟨wr.heap.size, 0, none⟩ 1 [.int .i64 x, .int .i64 y] rfl (news_at (fr := (0, 0)) (heap_new rfl _)) (fun u hu => by
    simp only [List.mem_cons, List.not_mem_nil, or_false] at hu
    rcases hu with rfl | rfl
    · rfl
    · rfl) hl (by rw [World.size_alloc]; omega)
  exact ⟨_, w', hr, ⟨(h.p1.keepTy (hka 3)).keepTy (hG.keepTy ht (by decide)), q1.grow hG (by rw [World.size_alloc]; omega), (h.p3.keepTy (hka 5)).keepTy (hG.keepTy ht (by decide)), q1.foot hG hf (fun k hk => .inr (.inl hk)), hb⟩⟩
set_option maxRecDepth 100000 in
theorem Aps.grow3 (h : Aps w w0 U1 U2 U3 n1 n2 n3 D1 D2 D3 a c d i1 i2 i3 wr) (x : Int) (hl : n3 + i3 + 1 ≤ 4398046511104) :
    ∃ d' w', (Builtin.append_ #[46, 46] 46 #[d, .slice (some ⟨wr.heap.size, 0, none⟩) 1 1]).run Tryd.prog (wr.alloc (.cells #[.int .u8 x] 5)) = .ok d' w' ∧ Aps w w0 U1 U2 U3 n1 n2 n3 D1 D2 D3 a c d' i1 i2 (i3 + 1) w' := by
  obtain ⟨i0, hi, hz0, hz1, hz2⟩ := info_parts info5
  have hka := fun t => keepTy_alloc' wr (.cells #[.int .u8 x] 5) t
  have q1 := h.p3.keepTy (hka 5)
  obtain ⟨tl, ht⟩ := q1.tail
  have hz := h.foot.size
  have hb := h.base
  have hf := h.foot.keep ((Below.refl wr.heap.size wr).alloc (Nat.le_refl _) (.cells #[.int .u8 x] 5))
  obtain ⟨g, cp, w', hr, hG⟩ := run_grow (wr.alloc (.cells #[.int .u8 x] 5)) w.heap.size 46 46 5 i0 _ 1 1 Tryd.underlying46 hi hz0 hz1 hz2 rfl (by decide) (by decide) d (n3 + i3) (D3 ++ tl) ht ⟨wr.heap.size, 0, none⟩ 1 [.int .u8 x] rfl (news_at (fr := (0, 0)) (heap_new rfl _)) (fun u hu => by rw [List.mem_singleton.1 hu]; rfl) hl (by rw [World.size_alloc]; omega)
  exact ⟨_, w', hr, ⟨(h.p1.keepTy (hka 3)).keepTy (hG.keepTy ht (by decide)), (h.p2.keepTy (hka 43)).keepTy (hG.keepTy ht (by decide)), q1.grow hG (by rw [World.size_alloc]; omega), q1.foot hG hf (fun k hk => .inr (.inr hk)), hb⟩⟩
end
theorem own_type {B e sz k : Nat} {wq : World} {v : Value} {xs : List Value} (h : wq.ownsRow B e sz v k xs) {q : Nat} (hq : v.ownBlock = some q) : ∃ cur : Array Value, wq.heap[q]? = some (.cells cur e (0, 0)) := by
  rcases h.2 with ⟨rfl, _⟩ | ⟨g, cap, cur, rfl, _, hh, _⟩
  · cases hq
  · simp only [Value.ownBlock, Option.some.injEq] at hq
    subst hq
    exact ⟨cur, hh⟩
/-- behind the growing -/
theorem Tot.after {w0 : World} {k i1 i2 i3 : Nat} {a c d : Value} (h : Tot w S g cap n m v1 v2 v3 xs1 xs2 xs3 A1 A2 A3 V1 V2 V3 C1 C2 C3 K w0) (hk : k < K) (ha : Aps w w0 (V1 k) (V2 k) (V3 k) xs1.length xs2.length xs3.length (C1 k) (C2 k) (C3 k) a c d i1 i2 i3 wr) :
    Tot w S g cap n m v1 v2 v3 xs1 xs2 xs3 A1 A2 A3 V1 V2 V3 C1 C2 C3 K wr := by
  have r1 := h.t1.row k hk
  have r2 := h.t2.row k hk
  have r3 := h.t3.row k hk
  have hf := ha.foot
  have key : ∀ (q : Nat) (cs : Array Value) (t : TypeId) (fr : Nat × Nat), w0.heap[q]? = some (.cells cs t fr) → (t = 3 → (V1 k).ownBlock ≠ some q) → (t = 43 → (V2 k).ownBlock ≠ some q) → (t = 5 → (V3 k).ownBlock ≠ some q) → wr.heap[q]? = w0.heap[q]? := by
    intro q cs t fr hq h1 h2 h3
    refine hf.block q (heap_lt hq) ?_
    rintro (e | e | e)
    · obtain ⟨cur, hc⟩ := own_type r1 e
      rw [hc] at hq
      simp only [Option.some.injEq, Obj.cells.injEq] at hq
      exact h1 hq.2.1.symm e
    · obtain ⟨cur, hc⟩ := own_type r2 e
      rw [hc] at hq
      simp only [Option.some.injEq, Obj.cells.injEq] at hq
      exact h2 hq.2.1.symm e
    · obtain ⟨cur, hc⟩ := own_type r3 e
      rw [hc] at hq
      simp only [Option.some.injEq, Obj.cells.injEq] at hq
      exact h3 hq.2.1.symm e
  refine ⟨?_, Nat.le_trans h.base hf.size, h.below.trans (hf.below (fun q hq => ?_) h.base), ?_, ?_, ?_, h.ge⟩
  · obtain ⟨cur, k1, _⟩ := h.set.ws
    refine h.set.same ?_ ?_
    · exact key _ _ _ _ h.set.hd (fun e => absurd e (by decide)) (fun e => absurd e (by decide)) (fun e => absurd e (by decide))
    · exact key _ _ _ _ k1 (fun e => absurd e (by decide)) (fun e => absurd e (by decide)) (fun e => absurd e (by decide))
  · rcases hq with e | e | e
    · exact (World.ownsRow.lt r1 q e).1
    · exact (World.ownsRow.lt r2 q e).1
    · exact (World.ownsRow.lt r3 q e).1
  · refine h.t1.foot hk (fun q cs t fr hq ht hne => key q cs t fr hq (fun _ => hne) ?_ ?_) ha.p1.orig (by decide)
    · rcases ht with rfl | rfl <;> exact fun e => absurd e (by decide)
    · rcases ht with rfl | rfl <;> exact fun e => absurd e (by decide)
  · refine h.t2.foot hk (fun q cs t fr hq ht hne => key q cs t fr hq ?_ (fun _ => hne) ?_) ha.p2.orig (by decide)
    · rcases ht with rfl | rfl <;> exact fun e => absurd e (by decide)
    · rcases ht with rfl | rfl <;> exact fun e => absurd e (by decide)
  · refine h.t3.foot hk (fun q cs t fr hq ht hne => key q cs t fr hq ?_ ?_ (fun _ => hne)) ha.p3.orig (by decide)
    · rcases ht with rfl | rfl <;> exact fun e => absurd e (by decide)
    · rcases ht with rfl | rfl <;> exact fun e => absurd e (by decide)
end
end Go.Proofs.YtmkbbekeimnajaaDoor
