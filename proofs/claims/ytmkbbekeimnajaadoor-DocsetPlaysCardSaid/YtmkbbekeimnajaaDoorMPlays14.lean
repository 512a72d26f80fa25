/- texts of this proof, one behind the other: Mx2 Mz Ix Alg Cl WOneForm -/
import Derived.Test.YtmkbbekeimnajaaDoorMPlays0
import Derived.Test.YtmkbbekeimnajaaDoorMPlays1
import Derived.Test.YtmkbbekeimnajaaDoorMPlays2
import Derived.Test.YtmkbbekeimnajaaDoorMPlays3
import Derived.Test.YtmkbbekeimnajaaDoorMPlays4
import Derived.Test.YtmkbbekeimnajaaDoorMPlays5
import Derived.Test.YtmkbbekeimnajaaDoorMPlays6
import Derived.Test.YtmkbbekeimnajaaDoorMPlays7
import Derived.Test.YtmkbbekeimnajaaDoorMPlays8
import Derived.Test.YtmkbbekeimnajaaDoorMPlays9
import Derived.Test.YtmkbbekeimnajaaDoorMPlays10
import Derived.Test.YtmkbbekeimnajaaDoorMPlays11
import Derived.Test.YtmkbbekeimnajaaDoorMPlays12
import Derived.Test.YtmkbbekeimnajaaDoorMPlays13
import Derived.Deep.RegionLaw
/-! Mx2: the algebra: mixed, And, Or, Minus, joined -/
namespace Go.Proofs.YtmkbbekeimnajaaDoor
open Go.RowKit Ds
set_option maxRecDepth 100000 in
theorem fun_77 (w : World) (a b c : Nat) (h : bits .and .u64 (a : Int) (b : Int) = (c : Int)) :
    Calls Tryd.prog 77 #[.int .u64 (a : Nat), .int .u64 (b : Nat)] w fun e w' => e = .returned (.int .u64 (c : Nat)) ∧ w = w' := by
  go_enter Tryd.func77, Tryd.ntmps77
  go_wp2_with fail
  go_ret
  exact ⟨by first | rfl | rw [h], rfl⟩
set_option maxRecDepth 100000 in
set_option maxHeartbeats 2000000 in
theorem mixed_77 (w : World) {S1 g1 cap1 S2 g2 cap2 n : Nat} {m1 m2 : Nat → Bool} (h1 : SetAt w S1 g1 cap1 n m1) (h2 : SetAt w S2 g2 cap2 n m2) :
    Calls Tryd.prog 76 #[.pointer (some ⟨S1, 0, none⟩), .pointer (some ⟨S2, 0, none⟩), .func (.func 77) #[] #[]] w fun e w' => ∃ S g, e = .returned (.tuple #[.pointer (some ⟨S, 0, none⟩), .nilIface]) ∧ w.heap.size ≤ S ∧ w.heap.size ≤ g ∧ SetAt w' S g (nw n) n (fun i => m1 i && m2 i) ∧ Below w.heap.size w w' := by
  obtain ⟨a0, a1, a2⟩ := cells3 h1.hd
  obtain ⟨b0, b1, b2⟩ := cells3 h2.hd
  have hsm := h1.small
  have HS1 := hide h1
  have HS2 := hide h2
  have HEM := hide (fun q => empty_any (w.drewN q) n hsm)
  obtain ⟨mm, hmm⟩ : ∃ mm : Nat → Bool, (fun i => m1 i && m2 i) = mm := ⟨_, rfl⟩
  have hoff : ∀ i, n ≤ i → mm i = false := fun i hi => by rw [← hmm]; simp [h1.off i hi, h2.off i hi]
  have HMM := hide hmm
  have HOFF := hide hoff
  rw [hmm]
  clear h1 h2 hmm hoff
  go_enter Tryd.func76, Tryd.ntmps76
  go_wp2_with fail
  go_quiet (fail)
  go_wp2_with fail
  refine (HEM.out _).mono ?_
  rintro e w1 ⟨S, g, rfl, hS, hg, hs, hb⟩
  have hS0 : w.heap.size ≤ S := hS
  have hg0 : w.heap.size ≤ g := hg
  have HB1 := hide (show Below w.heap.size w w1 from (below_drewN (Below.refl _ w) _).trans hb)
  have HH1 := hide (show Half w1 S g n (cnt mm (64 * 0)) (wds (below mm (64 * 0)) (nw n)) from by
    show Half w1 S g n (cnt mm 0) (wds (below mm 0) (nw n))
    rw [wds_below_zero]
    have := Half.of hs
    rw [cnt_none] at this
    exact this)
  obtain ⟨c0, c1, c2⟩ := cells3 hs.hd
  clear hS hg hs hb a0 a1 a2 b0 b1 b2
  obtain ⟨k, hk⟩ : ∃ k, nw n = k := ⟨_, rfl⟩
  have hkl : k ≤ 16384 := by rw [← hk]; unfold nw; omega
  rw [hk] at c2
  have HK := hide hk
  clear hk
  go_wp2_with fail
  clear c0 c1 c2
  go_loopw [34] (fun i wr => ∃ j : Nat, i = .int .i64 (j : Nat) ∧ j ≤ k ∧ Half wr S g n (cnt mm (64 * j)) (wds (below mm (64 * j)) (nw n)) ∧ Below w.heap.size w wr) (fun i _ => k - (intOf i).toNat)
  case atStart => exact ⟨0, rfl, Nat.zero_le _, HH1.out, HB1.out⟩
  case round =>
    obtain ⟨j, rfl, hj, hh, hb⟩ := hrel
    have HH := hide hh
    have HB := hide hb
    have zr := hb.size
    clear hh hb HH1 HB1
    by_cases hlt : j < k
    · have hji : (j : Int) < (k : Int) := by omega
      have hjn : j < nw n := by rw [HK.out]; exact hlt
      have hs1 := HS1.out.keep (HB.out.mono (Nat.le_refl _))
      have hs2 := HS2.out.keep (HB.out.mono (Nat.le_refl _))
      obtain ⟨a0, a1, a2⟩ := cells3 hs1.hd
      obtain ⟨b0, b1, b2⟩ := cells3 hs2.hd
      obtain ⟨c0, c1, c2⟩ := cells3 HH.out.hd
      have aw := hs1.cell hjn
      have bw := hs2.cell hjn
      have hcell := HH.out.cell (wds_get (below mm (64 * j)) hjn)
      have hc0 := hcell.1
      have hf0 := hcell.2
      have HF := hide (fun w => fun_77 w (word m1 j) (word m2 j) (word mm j) (by rw [← HMM.out]; exact word_and m1 m2 j))
      have HO := hide (fun w => ones_any w (word mm j) (word_lt' mm j))
      have HW := hide (show Half ((wr.setCell ⟨g, j, none⟩ (.int .u64 (word mm j : Nat))).drew) S g n (cnt mm (64 * j)) (wds (below mm (64 * (j + 1))) (nw n)) from by
        rw [← wds_below]
        exact (HH.out.word j _).keep (below_drewN (Below.refl _ _) 1))
      have hcap1 := hs1.cap
      have hcap2 := hs2.cap
      have hcw := cnt_words mm j
      have hcb := cnt_bd' HOFF.out (64 * j)
      have hcb2 := cnt_bd' HOFF.out (64 * (j + 1))
      rw [HK.out] at a2 b2 c2 hcap1 hcap2
      have HCW := hide hcw
      clear hs1 hs2 hcell hcw
      go_wp2_with fail
      refine wp_region_still_tail 22 (by kernel_rfl) (by kernel_rfl) ?_
      simp only [List.take_succ_cons, List.take_zero, List.drop_succ_cons, List.drop_zero]
      repeat still_step
      still_call ((HF.out _).mono fun _ _ h => ⟨h.1, h.2.symm⟩)
      repeat still_step
      refine wpStill_nil ?_
      go_upto_region 8 with (fail)
      generalize hX : (wr.setCell ⟨g, j, none⟩ (.int .u64 (word mm j : Nat))).drew = W
      have HW2 := hide (show Half W S g n (cnt mm (64 * j)) (wds (below mm (64 * (j + 1))) (nw n)) from by rw [← hX]; exact HW.out)
      have HB2 := hide (show Below w.heap.size w W from by rw [← hX]; exact below_drewN (below_set HB.out hg0 _) 1)
      clear hX c0 c1 c2 hc0 hf0 aw bw a0 a1 a2 b0 b1 b2 HW HF HH HB
      obtain ⟨c0, c1, c2⟩ := cells3 HW2.out.hd
      have hwc := HW2.out.cell (wds_get (below mm (64 * (j + 1))) hjn)
      rw [word_below_yes] at hwc
      have hw0 := hwc.1
      have hfc := free_at HW2.out.hd 1
      have hcw := HCW.out
      have hsum : IntKind.i64.wrap ((cnt mm (64 * j) : Int) + (Go.Lib.onesCount (word mm j) : Int)) = ((cnt mm (64 * (j + 1)) : Nat) : Int) := by rw [IntKind.wrap_i64]; omega
      have HC := hide (show Half ((W.setCell ⟨S, 1, none⟩ (.int .i64 (cnt mm (64 * (j + 1)) : Nat))).drew) S g n (cnt mm (64 * (j + 1))) (wds (below mm (64 * (j + 1))) (nw n)) from
        (HW2.out.count _).keep (below_drewN (Below.refl _ _) 1))
      have HB3 := hide (show Below w.heap.size w ((W.setCell ⟨S, 1, none⟩ (.int .i64 (cnt mm (64 * (j + 1)) : Nat))).drew) from below_drewN (below_set HB2.out hS0 _) 1)
      rw [HK.out] at c2
      clear hcw hwc
      refine wp_region_still_tail 15 (by kernel_rfl) (by kernel_rfl) ?_
      simp only [List.take_succ_cons, List.take_zero, List.drop_succ_cons, List.drop_zero]
      repeat still_step
      still_call ((HO.out _).mono fun _ _ h => ⟨h.1, h.2.symm⟩)
      repeat still_step
      refine wpStill_nil ?_
      go_wp2_with fail
      exact ⟨⟨j + 1, vi (by omega), by omega, HC.out, HB3.out⟩, by simp only [intOf]; omega⟩
    · obtain rfl : k = j := by omega
      have HFIN := hide (show SetAt wr S g (nw n) n mm from Half.set (by
        have h := HH.out
        rw [← HK.out] at h
        rw [cnt_all HOFF.out, wds_below_all] at h
        exact h) hsm HOFF.out)
      go_wp2_with fail
      go_ret2
      exact ⟨S, g, rfl, hS0, hg0, HFIN.out, HB.out⟩
set_option maxRecDepth 100000 in
theorem join_56 (w : World) {S1 g1 cap1 S2 g2 cap2 n : Nat} {m1 m2 : Nat → Bool} (h1 : SetAt w S1 g1 cap1 n m1) (h2 : SetAt w S2 g2 cap2 n m2) :
    Calls Tryd.prog 56 #[.pointer (some ⟨S1, 0, none⟩), .pointer (some ⟨S2, 0, none⟩)] w fun e w' => ∃ S g, e = .returned (.tuple #[.pointer (some ⟨S, 0, none⟩), .nilIface]) ∧ w.heap.size ≤ S ∧ w.heap.size ≤ g ∧ SetAt w' S g (nw n) n (fun i => m1 i && m2 i) ∧ Below w.heap.size w w' := by
  have HM := hide (mixed_77 w h1 h2)
  clear h1 h2
  go_enter Tryd.func56, Tryd.ntmps56
  go_wp2_with fail
  refine HM.out.mono ?_
  rintro e w1 ⟨S, g, rfl, hS, hg, hs, hb⟩
  have HS := hide hs
  have HB := hide hb
  clear hs hb
  go_wp2_with fail
  go_ret2
  exact ⟨S, g, rfl, hS, hg, HS.out, HB.out⟩
set_option maxRecDepth 100000 in
theorem joined_1 (w : World) {S1 g1 cap1 S2 g2 cap2 n : Nat} {m1 m2 : Nat → Bool} (h1 : SetAt w S1 g1 cap1 n m1) (h2 : SetAt w S2 g2 cap2 n m2) :
    Calls Tryd.prog 26 #[.int .i64 1, .pointer (some ⟨S1, 0, none⟩), .pointer (some ⟨S2, 0, none⟩)] w fun e w' => ∃ S g, e = .returned (.pointer (some ⟨S, 0, none⟩)) ∧ w.heap.size ≤ S ∧ w.heap.size ≤ g ∧ SetAt w' S g (nw n) n (fun i => m1 i && m2 i) ∧ Below w.heap.size w w' := by
  have HM := hide (join_56 w h1 h2)
  clear h1 h2
  go_enter Tryd.func26, Tryd.ntmps26
  go_wp2_with fail
  refine HM.out.mono ?_
  rintro e w1 ⟨S, g, rfl, hS, hg, hs, hb⟩
  have HS := hide hs
  have HB := hide hb
  clear hs hb
  go_wp2_with fail
  go_ret
  exact ⟨S, g, rfl, hS, hg, HS.out, HB.out⟩
set_option maxRecDepth 100000 in
theorem fun_78 (w : World) (a b c : Nat) (h : bits .or .u64 (a : Int) (b : Int) = (c : Int)) :
    Calls Tryd.prog 78 #[.int .u64 (a : Nat), .int .u64 (b : Nat)] w fun e w' => e = .returned (.int .u64 (c : Nat)) ∧ w = w' := by
  go_enter Tryd.func78, Tryd.ntmps78
  go_wp2_with fail
  go_ret
  exact ⟨by first | rfl | rw [h], rfl⟩
set_option maxRecDepth 100000 in
set_option maxHeartbeats 2000000 in
theorem mixed_78 (w : World) {S1 g1 cap1 S2 g2 cap2 n : Nat} {m1 m2 : Nat → Bool} (h1 : SetAt w S1 g1 cap1 n m1) (h2 : SetAt w S2 g2 cap2 n m2) :
    Calls Tryd.prog 76 #[.pointer (some ⟨S1, 0, none⟩), .pointer (some ⟨S2, 0, none⟩), .func (.func 78) #[] #[]] w fun e w' => ∃ S g, e = .returned (.tuple #[.pointer (some ⟨S, 0, none⟩), .nilIface]) ∧ w.heap.size ≤ S ∧ w.heap.size ≤ g ∧ SetAt w' S g (nw n) n (fun i => m1 i || m2 i) ∧ Below w.heap.size w w' := by
  obtain ⟨a0, a1, a2⟩ := cells3 h1.hd
  obtain ⟨b0, b1, b2⟩ := cells3 h2.hd
  have hsm := h1.small
  have HS1 := hide h1
  have HS2 := hide h2
  have HEM := hide (fun q => empty_any (w.drewN q) n hsm)
  obtain ⟨mm, hmm⟩ : ∃ mm : Nat → Bool, (fun i => m1 i || m2 i) = mm := ⟨_, rfl⟩
  have hoff : ∀ i, n ≤ i → mm i = false := fun i hi => by rw [← hmm]; simp [h1.off i hi, h2.off i hi]
  have HMM := hide hmm
  have HOFF := hide hoff
  rw [hmm]
  clear h1 h2 hmm hoff
  go_enter Tryd.func76, Tryd.ntmps76
  go_wp2_with fail
  go_quiet (fail)
  go_wp2_with fail
  refine (HEM.out _).mono ?_
  rintro e w1 ⟨S, g, rfl, hS, hg, hs, hb⟩
  have hS0 : w.heap.size ≤ S := hS
  have hg0 : w.heap.size ≤ g := hg
  have HB1 := hide (show Below w.heap.size w w1 from (below_drewN (Below.refl _ w) _).trans hb)
  have HH1 := hide (show Half w1 S g n (cnt mm (64 * 0)) (wds (below mm (64 * 0)) (nw n)) from by
    show Half w1 S g n (cnt mm 0) (wds (below mm 0) (nw n))
    rw [wds_below_zero]
    have := Half.of hs
    rw [cnt_none] at this
    exact this)
  obtain ⟨c0, c1, c2⟩ := cells3 hs.hd
  clear hS hg hs hb a0 a1 a2 b0 b1 b2
  obtain ⟨k, hk⟩ : ∃ k, nw n = k := ⟨_, rfl⟩
  have hkl : k ≤ 16384 := by rw [← hk]; unfold nw; omega
  rw [hk] at c2
  have HK := hide hk
  clear hk
  go_wp2_with fail
  clear c0 c1 c2
  go_loopw [34] (fun i wr => ∃ j : Nat, i = .int .i64 (j : Nat) ∧ j ≤ k ∧ Half wr S g n (cnt mm (64 * j)) (wds (below mm (64 * j)) (nw n)) ∧ Below w.heap.size w wr) (fun i _ => k - (intOf i).toNat)
  case atStart => exact ⟨0, rfl, Nat.zero_le _, HH1.out, HB1.out⟩
  case round =>
    obtain ⟨j, rfl, hj, hh, hb⟩ := hrel
    have HH := hide hh
    have HB := hide hb
    have zr := hb.size
    clear hh hb HH1 HB1
    by_cases hlt : j < k
    · have hji : (j : Int) < (k : Int) := by omega
      have hjn : j < nw n := by rw [HK.out]; exact hlt
      have hs1 := HS1.out.keep (HB.out.mono (Nat.le_refl _))
      have hs2 := HS2.out.keep (HB.out.mono (Nat.le_refl _))
      obtain ⟨a0, a1, a2⟩ := cells3 hs1.hd
      obtain ⟨b0, b1, b2⟩ := cells3 hs2.hd
      obtain ⟨c0, c1, c2⟩ := cells3 HH.out.hd
      have aw := hs1.cell hjn
      have bw := hs2.cell hjn
      have hcell := HH.out.cell (wds_get (below mm (64 * j)) hjn)
      have hc0 := hcell.1
      have hf0 := hcell.2
      have HF := hide (fun w => fun_78 w (word m1 j) (word m2 j) (word mm j) (by rw [← HMM.out]; exact word_or m1 m2 j))
      have HO := hide (fun w => ones_any w (word mm j) (word_lt' mm j))
      have HW := hide (show Half ((wr.setCell ⟨g, j, none⟩ (.int .u64 (word mm j : Nat))).drew) S g n (cnt mm (64 * j)) (wds (below mm (64 * (j + 1))) (nw n)) from by
        rw [← wds_below]
        exact (HH.out.word j _).keep (below_drewN (Below.refl _ _) 1))
      have hcap1 := hs1.cap
      have hcap2 := hs2.cap
      have hcw := cnt_words mm j
      have hcb := cnt_bd' HOFF.out (64 * j)
      have hcb2 := cnt_bd' HOFF.out (64 * (j + 1))
      rw [HK.out] at a2 b2 c2 hcap1 hcap2
      have HCW := hide hcw
      clear hs1 hs2 hcell hcw
      go_wp2_with fail
      refine wp_region_still_tail 22 (by kernel_rfl) (by kernel_rfl) ?_
      simp only [List.take_succ_cons, List.take_zero, List.drop_succ_cons, List.drop_zero]
      repeat still_step
      still_call ((HF.out _).mono fun _ _ h => ⟨h.1, h.2.symm⟩)
      repeat still_step
      refine wpStill_nil ?_
      go_upto_region 8 with (fail)
      generalize hX : (wr.setCell ⟨g, j, none⟩ (.int .u64 (word mm j : Nat))).drew = W
      have HW2 := hide (show Half W S g n (cnt mm (64 * j)) (wds (below mm (64 * (j + 1))) (nw n)) from by rw [← hX]; exact HW.out)
      have HB2 := hide (show Below w.heap.size w W from by rw [← hX]; exact below_drewN (below_set HB.out hg0 _) 1)
      clear hX c0 c1 c2 hc0 hf0 aw bw a0 a1 a2 b0 b1 b2 HW HF HH HB
      obtain ⟨c0, c1, c2⟩ := cells3 HW2.out.hd
      have hwc := HW2.out.cell (wds_get (below mm (64 * (j + 1))) hjn)
      rw [word_below_yes] at hwc
      have hw0 := hwc.1
      have hfc := free_at HW2.out.hd 1
      have hcw := HCW.out
      have hsum : IntKind.i64.wrap ((cnt mm (64 * j) : Int) + (Go.Lib.onesCount (word mm j) : Int)) = ((cnt mm (64 * (j + 1)) : Nat) : Int) := by rw [IntKind.wrap_i64]; omega
      have HC := hide (show Half ((W.setCell ⟨S, 1, none⟩ (.int .i64 (cnt mm (64 * (j + 1)) : Nat))).drew) S g n (cnt mm (64 * (j + 1))) (wds (below mm (64 * (j + 1))) (nw n)) from
        (HW2.out.count _).keep (below_drewN (Below.refl _ _) 1))
      have HB3 := hide (show Below w.heap.size w ((W.setCell ⟨S, 1, none⟩ (.int .i64 (cnt mm (64 * (j + 1)) : Nat))).drew) from below_drewN (below_set HB2.out hS0 _) 1)
      rw [HK.out] at c2
      clear hcw hwc
      refine wp_region_still_tail 15 (by kernel_rfl) (by kernel_rfl) ?_
      simp only [List.take_succ_cons, List.take_zero, List.drop_succ_cons, List.drop_zero]
      repeat still_step
      still_call ((HO.out _).mono fun _ _ h => ⟨h.1, h.2.symm⟩)
      repeat still_step
      refine wpStill_nil ?_
      go_wp2_with fail
      exact ⟨⟨j + 1, vi (by omega), by omega, HC.out, HB3.out⟩, by simp only [intOf]; omega⟩
    · obtain rfl : k = j := by omega
      have HFIN := hide (show SetAt wr S g (nw n) n mm from Half.set (by
        have h := HH.out
        rw [← HK.out] at h
        rw [cnt_all HOFF.out, wds_below_all] at h
        exact h) hsm HOFF.out)
      go_wp2_with fail
      go_ret2
      exact ⟨S, g, rfl, hS0, hg0, HFIN.out, HB.out⟩
set_option maxRecDepth 100000 in
theorem join_57 (w : World) {S1 g1 cap1 S2 g2 cap2 n : Nat} {m1 m2 : Nat → Bool} (h1 : SetAt w S1 g1 cap1 n m1) (h2 : SetAt w S2 g2 cap2 n m2) :
    Calls Tryd.prog 57 #[.pointer (some ⟨S1, 0, none⟩), .pointer (some ⟨S2, 0, none⟩)] w fun e w' => ∃ S g, e = .returned (.tuple #[.pointer (some ⟨S, 0, none⟩), .nilIface]) ∧ w.heap.size ≤ S ∧ w.heap.size ≤ g ∧ SetAt w' S g (nw n) n (fun i => m1 i || m2 i) ∧ Below w.heap.size w w' := by
  have HM := hide (mixed_78 w h1 h2)
  clear h1 h2
  go_enter Tryd.func57, Tryd.ntmps57
  go_wp2_with fail
  refine HM.out.mono ?_
  rintro e w1 ⟨S, g, rfl, hS, hg, hs, hb⟩
  have HS := hide hs
  have HB := hide hb
  clear hs hb
  go_wp2_with fail
  go_ret2
  exact ⟨S, g, rfl, hS, hg, HS.out, HB.out⟩
set_option maxRecDepth 100000 in
theorem joined_2 (w : World) {S1 g1 cap1 S2 g2 cap2 n : Nat} {m1 m2 : Nat → Bool} (h1 : SetAt w S1 g1 cap1 n m1) (h2 : SetAt w S2 g2 cap2 n m2) :
    Calls Tryd.prog 26 #[.int .i64 2, .pointer (some ⟨S1, 0, none⟩), .pointer (some ⟨S2, 0, none⟩)] w fun e w' => ∃ S g, e = .returned (.pointer (some ⟨S, 0, none⟩)) ∧ w.heap.size ≤ S ∧ w.heap.size ≤ g ∧ SetAt w' S g (nw n) n (fun i => m1 i || m2 i) ∧ Below w.heap.size w w' := by
  have HM := hide (join_57 w h1 h2)
  clear h1 h2
  go_enter Tryd.func26, Tryd.ntmps26
  go_wp2_with fail
  refine HM.out.mono ?_
  rintro e w1 ⟨S, g, rfl, hS, hg, hs, hb⟩
  have HS := hide hs
  have HB := hide hb
  clear hs hb
  go_wp2_with fail
  go_ret
  exact ⟨S, g, rfl, hS, hg, HS.out, HB.out⟩
set_option maxRecDepth 100000 in
theorem fun_79 (w : World) (a b c : Nat) (h : bits .andNot .u64 (a : Int) (b : Int) = (c : Int)) :
    Calls Tryd.prog 79 #[.int .u64 (a : Nat), .int .u64 (b : Nat)] w fun e w' => e = .returned (.int .u64 (c : Nat)) ∧ w = w' := by
  go_enter Tryd.func79, Tryd.ntmps79
  go_wp2_with fail
  go_ret
  exact ⟨by first | rfl | rw [h], rfl⟩
set_option maxRecDepth 100000 in
set_option maxHeartbeats 2000000 in
theorem mixed_79 (w : World) {S1 g1 cap1 S2 g2 cap2 n : Nat} {m1 m2 : Nat → Bool} (h1 : SetAt w S1 g1 cap1 n m1) (h2 : SetAt w S2 g2 cap2 n m2) :
    Calls Tryd.prog 76 #[.pointer (some ⟨S1, 0, none⟩), .pointer (some ⟨S2, 0, none⟩), .func (.func 79) #[] #[]] w fun e w' => ∃ S g, e = .returned (.tuple #[.pointer (some ⟨S, 0, none⟩), .nilIface]) ∧ w.heap.size ≤ S ∧ w.heap.size ≤ g ∧ SetAt w' S g (nw n) n (fun i => m1 i && !m2 i) ∧ Below w.heap.size w w' := by
  obtain ⟨a0, a1, a2⟩ := cells3 h1.hd
  obtain ⟨b0, b1, b2⟩ := cells3 h2.hd
  have hsm := h1.small
  have HS1 := hide h1
  have HS2 := hide h2
  have HEM := hide (fun q => empty_any (w.drewN q) n hsm)
  obtain ⟨mm, hmm⟩ : ∃ mm : Nat → Bool, (fun i => m1 i && !m2 i) = mm := ⟨_, rfl⟩
  have hoff : ∀ i, n ≤ i → mm i = false := fun i hi => by rw [← hmm]; simp [h1.off i hi, h2.off i hi]
  have HMM := hide hmm
  have HOFF := hide hoff
  rw [hmm]
  clear h1 h2 hmm hoff
  go_enter Tryd.func76, Tryd.ntmps76
  go_wp2_with fail
  go_quiet (fail)
  go_wp2_with fail
  refine (HEM.out _).mono ?_
  rintro e w1 ⟨S, g, rfl, hS, hg, hs, hb⟩
  have hS0 : w.heap.size ≤ S := hS
  have hg0 : w.heap.size ≤ g := hg
  have HB1 := hide (show Below w.heap.size w w1 from (below_drewN (Below.refl _ w) _).trans hb)
  have HH1 := hide (show Half w1 S g n (cnt mm (64 * 0)) (wds (below mm (64 * 0)) (nw n)) from by
    show Half w1 S g n (cnt mm 0) (wds (below mm 0) (nw n))
    rw [wds_below_zero]
    have := Half.of hs
    rw [cnt_none] at this
    exact this)
  obtain ⟨c0, c1, c2⟩ := cells3 hs.hd
  clear hS hg hs hb a0 a1 a2 b0 b1 b2
  obtain ⟨k, hk⟩ : ∃ k, nw n = k := ⟨_, rfl⟩
  have hkl : k ≤ 16384 := by rw [← hk]; unfold nw; omega
  rw [hk] at c2
  have HK := hide hk
  clear hk
  go_wp2_with fail
  clear c0 c1 c2
  go_loopw [34] (fun i wr => ∃ j : Nat, i = .int .i64 (j : Nat) ∧ j ≤ k ∧ Half wr S g n (cnt mm (64 * j)) (wds (below mm (64 * j)) (nw n)) ∧ Below w.heap.size w wr) (fun i _ => k - (intOf i).toNat)
  case atStart => exact ⟨0, rfl, Nat.zero_le _, HH1.out, HB1.out⟩
  case round =>
    obtain ⟨j, rfl, hj, hh, hb⟩ := hrel
    have HH := hide hh
    have HB := hide hb
    have zr := hb.size
    clear hh hb HH1 HB1
    by_cases hlt : j < k
    · have hji : (j : Int) < (k : Int) := by omega
      have hjn : j < nw n := by rw [HK.out]; exact hlt
      have hs1 := HS1.out.keep (HB.out.mono (Nat.le_refl _))
      have hs2 := HS2.out.keep (HB.out.mono (Nat.le_refl _))
      obtain ⟨a0, a1, a2⟩ := cells3 hs1.hd
      obtain ⟨b0, b1, b2⟩ := cells3 hs2.hd
      obtain ⟨c0, c1, c2⟩ := cells3 HH.out.hd
      have aw := hs1.cell hjn
      have bw := hs2.cell hjn
      have hcell := HH.out.cell (wds_get (below mm (64 * j)) hjn)
      have hc0 := hcell.1
      have hf0 := hcell.2
      have HF := hide (fun w => fun_79 w (word m1 j) (word m2 j) (word mm j) (by rw [← HMM.out]; exact word_minus m1 m2 j))
      have HO := hide (fun w => ones_any w (word mm j) (word_lt' mm j))
      have HW := hide (show Half ((wr.setCell ⟨g, j, none⟩ (.int .u64 (word mm j : Nat))).drew) S g n (cnt mm (64 * j)) (wds (below mm (64 * (j + 1))) (nw n)) from by
        rw [← wds_below]
        exact (HH.out.word j _).keep (below_drewN (Below.refl _ _) 1))
      have hcap1 := hs1.cap
      have hcap2 := hs2.cap
      have hcw := cnt_words mm j
      have hcb := cnt_bd' HOFF.out (64 * j)
      have hcb2 := cnt_bd' HOFF.out (64 * (j + 1))
      rw [HK.out] at a2 b2 c2 hcap1 hcap2
      have HCW := hide hcw
      clear hs1 hs2 hcell hcw
      go_wp2_with fail
      refine wp_region_still_tail 22 (by kernel_rfl) (by kernel_rfl) ?_
      simp only [List.take_succ_cons, List.take_zero, List.drop_succ_cons, List.drop_zero]
      repeat still_step
      still_call ((HF.out _).mono fun _ _ h => ⟨h.1, h.2.symm⟩)
      repeat still_step
      refine wpStill_nil ?_
      go_upto_region 8 with (fail)
      generalize hX : (wr.setCell ⟨g, j, none⟩ (.int .u64 (word mm j : Nat))).drew = W
      have HW2 := hide (show Half W S g n (cnt mm (64 * j)) (wds (below mm (64 * (j + 1))) (nw n)) from by rw [← hX]; exact HW.out)
      have HB2 := hide (show Below w.heap.size w W from by rw [← hX]; exact below_drewN (below_set HB.out hg0 _) 1)
      clear hX c0 c1 c2 hc0 hf0 aw bw a0 a1 a2 b0 b1 b2 HW HF HH HB
      obtain ⟨c0, c1, c2⟩ := cells3 HW2.out.hd
      have hwc := HW2.out.cell (wds_get (below mm (64 * (j + 1))) hjn)
      rw [word_below_yes] at hwc
      have hw0 := hwc.1
      have hfc := free_at HW2.out.hd 1
      have hcw := HCW.out
      have hsum : IntKind.i64.wrap ((cnt mm (64 * j) : Int) + (Go.Lib.onesCount (word mm j) : Int)) = ((cnt mm (64 * (j + 1)) : Nat) : Int) := by rw [IntKind.wrap_i64]; omega
      have HC := hide (show Half ((W.setCell ⟨S, 1, none⟩ (.int .i64 (cnt mm (64 * (j + 1)) : Nat))).drew) S g n (cnt mm (64 * (j + 1))) (wds (below mm (64 * (j + 1))) (nw n)) from
        (HW2.out.count _).keep (below_drewN (Below.refl _ _) 1))
      have HB3 := hide (show Below w.heap.size w ((W.setCell ⟨S, 1, none⟩ (.int .i64 (cnt mm (64 * (j + 1)) : Nat))).drew) from below_drewN (below_set HB2.out hS0 _) 1)
      rw [HK.out] at c2
      clear hcw hwc
      refine wp_region_still_tail 15 (by kernel_rfl) (by kernel_rfl) ?_
      simp only [List.take_succ_cons, List.take_zero, List.drop_succ_cons, List.drop_zero]
      repeat still_step
      still_call ((HO.out _).mono fun _ _ h => ⟨h.1, h.2.symm⟩)
      repeat still_step
      refine wpStill_nil ?_
      go_wp2_with fail
      exact ⟨⟨j + 1, vi (by omega), by omega, HC.out, HB3.out⟩, by simp only [intOf]; omega⟩
    · obtain rfl : k = j := by omega
      have HFIN := hide (show SetAt wr S g (nw n) n mm from Half.set (by
        have h := HH.out
        rw [← HK.out] at h
        rw [cnt_all HOFF.out, wds_below_all] at h
        exact h) hsm HOFF.out)
      go_wp2_with fail
      go_ret2
      exact ⟨S, g, rfl, hS0, hg0, HFIN.out, HB.out⟩
set_option maxRecDepth 100000 in
theorem join_58 (w : World) {S1 g1 cap1 S2 g2 cap2 n : Nat} {m1 m2 : Nat → Bool} (h1 : SetAt w S1 g1 cap1 n m1) (h2 : SetAt w S2 g2 cap2 n m2) :
    Calls Tryd.prog 58 #[.pointer (some ⟨S1, 0, none⟩), .pointer (some ⟨S2, 0, none⟩)] w fun e w' => ∃ S g, e = .returned (.tuple #[.pointer (some ⟨S, 0, none⟩), .nilIface]) ∧ w.heap.size ≤ S ∧ w.heap.size ≤ g ∧ SetAt w' S g (nw n) n (fun i => m1 i && !m2 i) ∧ Below w.heap.size w w' := by
  have HM := hide (mixed_79 w h1 h2)
  clear h1 h2
  go_enter Tryd.func58, Tryd.ntmps58
  go_wp2_with fail
  refine HM.out.mono ?_
  rintro e w1 ⟨S, g, rfl, hS, hg, hs, hb⟩
  have HS := hide hs
  have HB := hide hb
  clear hs hb
  go_wp2_with fail
  go_ret2
  exact ⟨S, g, rfl, hS, hg, HS.out, HB.out⟩
set_option maxRecDepth 100000 in
theorem joined_3 (w : World) {S1 g1 cap1 S2 g2 cap2 n : Nat} {m1 m2 : Nat → Bool} (h1 : SetAt w S1 g1 cap1 n m1) (h2 : SetAt w S2 g2 cap2 n m2) :
    Calls Tryd.prog 26 #[.int .i64 3, .pointer (some ⟨S1, 0, none⟩), .pointer (some ⟨S2, 0, none⟩)] w fun e w' => ∃ S g, e = .returned (.pointer (some ⟨S, 0, none⟩)) ∧ w.heap.size ≤ S ∧ w.heap.size ≤ g ∧ SetAt w' S g (nw n) n (fun i => m1 i && !m2 i) ∧ Below w.heap.size w w' := by
  have HM := hide (join_58 w h1 h2)
  clear h1 h2
  go_enter Tryd.func26, Tryd.ntmps26
  go_wp2_with fail
  refine HM.out.mono ?_
  rintro e w1 ⟨S, g, rfl, hS, hg, hs, hb⟩
  have HS := hide hs
  have HB := hide hb
  clear hs hb
  go_wp2_with fail
  go_ret
  exact ⟨S, g, rfl, hS, hg, HS.out, HB.out⟩
end Go.Proofs.YtmkbbekeimnajaaDoor

/-! Mz: And Or Minus Equal where there is no second set, or one of another size -/
namespace Go.Proofs.YtmkbbekeimnajaaDoor
open Go.RowKit Ds
set_option maxRecDepth 100000 in
theorem mixed_nil (w : World) {S1 g1 cap1 n : Nat} {m : Nat → Bool} (h1 : SetAt w S1 g1 cap1 n m) (f : Fn) (a : Addr) (hE : ErrAt w 9 a) :
    Calls Tryd.prog 76 #[.pointer (some ⟨S1, 0, none⟩), .pointer none, .func f #[] #[]] w fun e w' => e = .returned (.tuple #[.pointer none, .iface 153 (.pointer (some a))]) ∧ ∃ q, w' = w.drewN q := by
  obtain ⟨a0, a1, a2⟩ := cells3 h1.hd
  unfold ErrAt at hE
  clear h1
  go_enter Tryd.func76, Tryd.ntmps76
  go_wp2_with fail
  go_quiet (fail)
  go_wp2_with fail
  go_quiet (fail)
  go_wp2_with fail
  go_ret2
  exact ⟨rfl, _, by first | rfl | rw [World.drewN_drewN]⟩
set_option maxRecDepth 100000 in
theorem mixed_size (w : World) {S1 g1 cap1 n S2 g2 cap2 n2 : Nat} {m m2 : Nat → Bool} (h1 : SetAt w S1 g1 cap1 n m) (h2 : SetAt w S2 g2 cap2 n2 m2) (hne : n ≠ n2) (f : Fn) (a : Addr) (hE : ErrAt w 9 a) :
    Calls Tryd.prog 76 #[.pointer (some ⟨S1, 0, none⟩), .pointer (some ⟨S2, 0, none⟩), .func f #[] #[]] w fun e w' => e = .returned (.tuple #[.pointer none, .iface 153 (.pointer (some a))]) ∧ ∃ q, w' = w.drewN q := by
  obtain ⟨a0, a1, a2⟩ := cells3 h1.hd
  obtain ⟨b0, b1, b2⟩ := cells3 h2.hd
  have hnn : ¬ (n2 : Int) = (n : Int) := by omega
  unfold ErrAt at hE
  clear h1 h2 hne
  go_enter Tryd.func76, Tryd.ntmps76
  go_wp2_with fail
  go_quiet (fail)
  go_wp2_with fail
  go_quiet (fail)
  go_wp2_with fail
  go_ret2
  exact ⟨rfl, _, by first | rfl | rw [World.drewN_drewN]⟩
set_option maxRecDepth 100000 in
theorem equal_nil (w : World) {S1 g1 cap1 n : Nat} {m : Nat → Bool} (h1 : SetAt w S1 g1 cap1 n m) :
    Calls Tryd.prog 35 #[.pointer (some ⟨S1, 0, none⟩), .pointer none] w fun e w' => e = .returned (.bool false) ∧ ∃ q, w' = w.drewN q := by
  obtain ⟨a0, a1, a2⟩ := cells3 h1.hd
  clear h1
  go_enter Tryd.func35, Tryd.ntmps35
  go_wp2_with fail
  go_quiet (fail)
  go_wp2_with fail
  go_ret
  exact ⟨rfl, _, rfl⟩
set_option maxRecDepth 100000 in
theorem join_no_56 (w : World) (v1 v2 : Value) (a : Addr) (h : ∀ f, Calls Tryd.prog 76 #[v1, v2, .func f #[] #[]] w fun e w' => e = .returned (.tuple #[.pointer none, .iface 153 (.pointer (some a))]) ∧ ∃ q, w' = w.drewN q) :
    Calls Tryd.prog 56 #[v1, v2] w fun e w' => e = .returned (.tuple #[.pointer none, .iface 153 (.pointer (some a))]) ∧ ∃ q, w' = w.drewN q := by
  have HM := hide (h (.func 77))
  clear h
  go_enter Tryd.func56, Tryd.ntmps56
  go_wp2_with fail
  refine HM.out.mono ?_
  rintro e w1 ⟨rfl, q, rfl⟩
  go_wp2_with fail
  go_ret2
  exact ⟨rfl, _, rfl⟩
set_option maxRecDepth 100000 in
theorem join_no_57 (w : World) (v1 v2 : Value) (a : Addr) (h : ∀ f, Calls Tryd.prog 76 #[v1, v2, .func f #[] #[]] w fun e w' => e = .returned (.tuple #[.pointer none, .iface 153 (.pointer (some a))]) ∧ ∃ q, w' = w.drewN q) :
    Calls Tryd.prog 57 #[v1, v2] w fun e w' => e = .returned (.tuple #[.pointer none, .iface 153 (.pointer (some a))]) ∧ ∃ q, w' = w.drewN q := by
  have HM := hide (h (.func 78))
  clear h
  go_enter Tryd.func57, Tryd.ntmps57
  go_wp2_with fail
  refine HM.out.mono ?_
  rintro e w1 ⟨rfl, q, rfl⟩
  go_wp2_with fail
  go_ret2
  exact ⟨rfl, _, rfl⟩
set_option maxRecDepth 100000 in
theorem join_no_58 (w : World) (v1 v2 : Value) (a : Addr) (h : ∀ f, Calls Tryd.prog 76 #[v1, v2, .func f #[] #[]] w fun e w' => e = .returned (.tuple #[.pointer none, .iface 153 (.pointer (some a))]) ∧ ∃ q, w' = w.drewN q) :
    Calls Tryd.prog 58 #[v1, v2] w fun e w' => e = .returned (.tuple #[.pointer none, .iface 153 (.pointer (some a))]) ∧ ∃ q, w' = w.drewN q := by
  have HM := hide (h (.func 79))
  clear h
  go_enter Tryd.func58, Tryd.ntmps58
  go_wp2_with fail
  refine HM.out.mono ?_
  rintro e w1 ⟨rfl, q, rfl⟩
  go_wp2_with fail
  go_ret2
  exact ⟨rfl, _, rfl⟩
set_option maxRecDepth 100000 in
theorem slot_any (w : World) (i : Int) : Calls Tryd.prog 88 #[.int .i64 i] w fun e w' => e = .returned (.int .i64 ((i % 4).toNat : Nat)) ∧ w = w' := by
  obtain ⟨t, ht⟩ : ∃ t, (i % 4).toNat = t := ⟨_, rfl⟩
  rw [ht]
  have h4 : t < 4 := by omega
  have HE := hide (show wrap64 ((IntKind.u64.wrap i).tmod 4) = (t : Int) from by
    rw [IntKind.wrap_u64, Int.tmod_eq_emod_of_nonneg (by omega)]
    unfold wrap64
    omega)
  clear ht h4
  go_enter Tryd.func88, Tryd.ntmps88
  go_wp2_with fail
  go_ret
  exact ⟨ret_int HE.out, rfl⟩
end Go.Proofs.YtmkbbekeimnajaaDoor

/-! Ix: slices.Contains -/
namespace Go.Proofs.YtmkbbekeimnajaaDoor
open Go.RowKit Ds
set_option maxRecDepth 100000 in
set_option maxHeartbeats 1000000 in
theorem index_in (w : World) (ao : Option Addr) (n cap : Nat) (zs : List Int) (z : Int) (hI : Ints w (.slice ao n cap) zs) (hn : zs.length = n) (hl : n ≤ 1152921504606846976) (hz : z ∈ zs) :
    Calls Tryd.prog 68 #[.slice ao n cap, .int .i64 z] w fun e w' => (∃ k : Nat, e = .returned (.int .i64 (k : Nat))) ∧ w = w' := by
  have HI := hide hI
  have HN := hide hn
  obtain ⟨d, hd, hbad, hlow⟩ := first_diff (fun i => zs[i]? ≠ some z) zs.length (fun h => by
    obtain ⟨i, hi⟩ := List.mem_iff_getElem?.1 hz
    exact h i (get_lt' hi) hi)
  rw [hn] at hd
  have hdz : zs[d]? = some z := by
    cases h : zs[d]? with
    | none => exact (hbad (by rw [h]; simp)).elim
    | some y => by_cases e : y = z
                · rw [e]
                · exact (hbad (by rw [h]; simp; exact e)).elim
  have HD := hide hdz
  have HL := hide hlow
  clear hI hn hz hbad hlow hdz
  go_enter Tryd.func68, Tryd.ntmps68
  go_wp2_with fail
  go_loop [8] (fun a => ∃ i : Nat, a = .int .i64 (i : Nat) ∧ i ≤ d) (fun a => n - (intOf a).toNat)
  case atStart => exact ⟨0, rfl, Nat.zero_le _⟩
  case round =>
    obtain ⟨i, rfl, hi⟩ := hrel
    have hlt : i < n := by omega
    obtain ⟨x, hx⟩ : ∃ x, zs[i]? = some x := ⟨_, List.getElem?_eq_getElem (by rw [HN.out]; exact hlt)⟩
    obtain ⟨ad, rfl, hc⟩ := ints_get HI.out hx
    have hii : (i : Int) < (n : Int) := by omega
    by_cases hid : i < d
    · have hxz : (z == x) = false := by
        have := HL.out i hid
        rw [hx] at this
        simp only [ne_eq, Option.some.injEq] at this
        simp only [beq_eq_false_iff_ne, ne_eq]
        exact fun e => this e.symm
      clear hx
      go_wp2_with fail
      exact ⟨⟨i + 1, vi (by omega), by omega⟩, by simp only [intOf]; omega⟩
    · obtain rfl : d = i := by omega
      obtain rfl : x = z := by have := HD.out; rw [hx] at this; exact Option.some.inj this
      clear hx
      go_wp2_with fail
      go_ret
      exact ⟨⟨d, rfl⟩, rfl⟩
set_option maxRecDepth 100000 in
set_option maxHeartbeats 1000000 in
theorem index_out (w : World) (ao : Option Addr) (n cap : Nat) (zs : List Int) (z : Int) (hI : Ints w (.slice ao n cap) zs) (hn : zs.length = n) (hl : n ≤ 1152921504606846976) (hz : z ∉ zs) :
    Calls Tryd.prog 68 #[.slice ao n cap, .int .i64 z] w fun e w' => e = .returned (.int .i64 (-1)) ∧ w = w' := by
  have HI := hide hI
  have HN := hide hn
  have HZ := hide hz
  clear hI hn hz
  go_enter Tryd.func68, Tryd.ntmps68
  go_wp2_with fail
  go_loop [8] (fun a => ∃ i : Nat, a = .int .i64 (i : Nat) ∧ i ≤ n) (fun a => n - (intOf a).toNat)
  case atStart => exact ⟨0, rfl, Nat.zero_le _⟩
  case round =>
    obtain ⟨i, rfl, hi⟩ := hrel
    by_cases hlt : i < n
    · obtain ⟨x, hx⟩ : ∃ x, zs[i]? = some x := ⟨_, List.getElem?_eq_getElem (by rw [HN.out]; exact hlt)⟩
      obtain ⟨ad, rfl, hc⟩ := ints_get HI.out hx
      have hii : (i : Int) < (n : Int) := by omega
      have hxz : (z == x) = false := by
        simp only [beq_eq_false_iff_ne, ne_eq]
        rintro rfl
        exact HZ.out (List.mem_of_getElem? hx)
      clear hx
      go_wp2_with fail
      exact ⟨⟨i + 1, vi (by omega), by omega⟩, by simp only [intOf]; omega⟩
    · obtain rfl : n = i := by omega
      go_wp2_with fail
      go_ret
      exact ⟨rfl, rfl⟩
set_option maxRecDepth 100000 in
theorem contains_any (w : World) (ao : Option Addr) (n cap : Nat) (zs : List Int) (z : Int) (hI : Ints w (.slice ao n cap) zs) (hn : zs.length = n) (hl : n ≤ 1152921504606846976) :
    Calls Tryd.prog 37 #[.slice ao n cap, .int .i64 z] w fun e w' => e = .returned (.bool (decide (z ∈ zs))) ∧ w = w' := by
  by_cases hz : z ∈ zs
  · rw [decide_eq_true hz]
    have HI := hide (index_in w ao n cap zs z hI hn hl hz)
    clear hI hn hz
    go_enter Tryd.func37, Tryd.ntmps37
    go_wp2_with fail
    refine HI.out.mono ?_
    rintro e wz ⟨⟨k, rfl⟩, rfl⟩
    go_wp2_with fail
    go_ret
    exact ⟨rfl, rfl⟩
  · rw [decide_eq_false hz]
    have HI := hide (index_out w ao n cap zs z hI hn hl hz)
    clear hI hn hz
    go_enter Tryd.func37, Tryd.ntmps37
    go_wp2_with fail
    refine HI.out.mono ?_
    rintro e wz ⟨rfl, rfl⟩
    go_wp2_with fail
    go_ret
    exact ⟨rfl, rfl⟩
end Go.Proofs.YtmkbbekeimnajaaDoor

/-! Alg: plain: the rules of the algebra -/
namespace Go.Proofs.YtmkbbekeimnajaaDoor
open Go.RowKit Ds
def mAnd (a b : Nat → Bool) : Nat → Bool := fun i => a i && b i
def mOr (a b : Nat → Bool) : Nat → Bool := fun i => a i || b i
def mMinus (a b : Nat → Bool) : Nat → Bool := fun i => a i && !b i
section
variable {a b : Nat → Bool} {N : Nat}
theorem alg_nn (ha : ∀ i, N ≤ i → a i = false) : neg (neg a N) N = a := by
  funext i
  unfold neg
  by_cases h : i < N
  · simp [h]
  · rw [decide_eq_false h, ha i (by omega)]; rfl
theorem alg_and : neg (mAnd a b) N = mOr (neg a N) (neg b N) := by
  funext i
  unfold neg mAnd mOr
  dsimp only
  cases decide (i < N) <;> cases a i <;> cases b i <;> rfl
theorem alg_or : neg (mOr a b) N = mAnd (neg a N) (neg b N) := by
  funext i
  unfold neg mAnd mOr
  dsimp only
  cases decide (i < N) <;> cases a i <;> cases b i <;> rfl
theorem alg_minus (ha : ∀ i, N ≤ i → a i = false) : mMinus a b = mAnd a (neg b N) := by
  funext i
  unfold neg mAnd mMinus
  dsimp only
  by_cases h : i < N
  · rw [decide_eq_true h]; cases a i <;> cases b i <;> rfl
  · rw [ha i (by omega)]; rfl
theorem alg_andc : mAnd b a = mAnd a b := by funext i; unfold mAnd; cases a i <;> cases b i <;> rfl
theorem alg_orc : mOr b a = mOr a b := by funext i; unfold mOr; cases a i <;> cases b i <;> rfl
theorem alg_split : mOr (mMinus a b) (mAnd a b) = a := by funext i; unfold mOr mMinus mAnd; cases a i <;> cases b i <;> rfl
theorem alg_self : mAnd a a = a := by funext i; unfold mAnd; cases a i <;> rfl
theorem alg_none : cnt (mAnd a (neg a N)) N = 0 := by
  rw [← cnt_none N]
  exact cnt_congr fun i hi => by unfold mAnd neg; cases decide (i < N) <;> cases a i <;> rfl
end
theorem alg_sum (a b : Nat → Bool) : ∀ N, cnt (mAnd a b) N + cnt (mOr a b) N = cnt a N + cnt b N
  | 0 => rfl
  | N + 1 => by
    have ih := alg_sum a b N
    rw [cnt_succ, cnt_succ, cnt_succ, cnt_succ]
    have e1 : mAnd a b N = (a N && b N) := rfl
    have e2 : mOr a b N = (a N || b N) := rfl
    rw [e1, e2]
    cases a N <;> cases b N <;> simp <;> omega
theorem alike_eq (w : World) {S1 g1 cap1 S2 g2 cap2 n : Nat} {m1 m2 : Nat → Bool} (h1 : SetAt w S1 g1 cap1 n m1) (h2 : SetAt w S2 g2 cap2 n m2) (hm : m1 = m2) :
    Calls Tryd.prog 27 #[.pointer (some ⟨S1, 0, none⟩), .pointer (some ⟨S2, 0, none⟩)] w fun e w' => e = .returned (.bool true) ∧ Below w.heap.size w w' := by
  subst hm
  exact alike_same w h1 h2
theorem bytes_same (w : World) (v1 v2 : Value) (xs : List Nat) (h1 : Src w v1 xs) (h2 : Src w v2 xs) :
    Calls Tryd.prog 28 #[v1, v2] w fun e w' => e = .returned (.bool true) ∧ w = w' := (bytes_equal w v1 v2 xs xs h1 h2).mono fun e w' ⟨he, hw⟩ => ⟨by rw [he]; simp, hw⟩
end Go.Proofs.YtmkbbekeimnajaaDoor

/-! Cl: a clone -/
namespace Go.Proofs.YtmkbbekeimnajaaDoor
open Go.RowKit Ds
theorem wds_one (m : Nat → Bool) (k : Nat) : ∀ u ∈ wds m k, u.oneCell' = true := by
  intro u hu
  simp only [wds, List.mem_map] at hu
  obtain ⟨n, _, rfl⟩ := hu
  rfl
theorem set_srcc {w : World} {S g cap n : Nat} {m : Nat → Bool} (h : SetAt w S g cap n m) : SrcC w (.slice (some ⟨g, 0, none⟩) (nw n) cap) (nw n) 1 (wds m (nw n)) := by
  refine ⟨by simp [wds], .inr ⟨⟨g, 0, none⟩, cap, rfl, fun j u hj => ?_⟩⟩
  have hjn : j < nw n := by
    have := get_lt' hj
    simpa [wds] using this
  rw [Addr.add_mid, Nat.zero_add, h.cell hjn, ← hj]
  simp [wds, hjn]
set_option maxRecDepth 100000 in
set_option maxHeartbeats 2000000 in
theorem clone_any (w : World) {S g cap n : Nat} {m : Nat → Bool} (h : SetAt w S g cap n m) :
    Calls Tryd.prog 34 #[.pointer (some ⟨S, 0, none⟩)] w fun e w' => ∃ S2 g2 cap2, e = .returned (.pointer (some ⟨S2, 0, none⟩)) ∧ w.heap.size ≤ S2 ∧ w.heap.size ≤ g2 ∧ SetAt w' S2 g2 cap2 n m ∧ Below w.heap.size w w' := by
  obtain ⟨i0, hi, hz0, hz1, hz2⟩ := info_parts info83
  have hsm := h.small
  have hnw : nw n ≤ 16384 := by unfold nw; omega
  have HS := hide h
  clear h
  have HS1 := hide (show SetAt w.drew S g cap n m from HS.out.keep ((Below.refl w.heap.size w).drew))
  have hS1 : S < w.drew.heap.size := heap_lt HS1.out.hd
  have hb2 : Below w.heap.size w (w.alloc (.cells #[] 83)).drew := ((Below.refl w.heap.size w).alloc (Nat.le_refl _) _).drew
  have HS2 := hide (show SetAt (w.alloc (.cells #[] 83)).drew S g cap n m from HS.out.keep hb2)
  have hown : (w.alloc (.cells #[] 83)).drew.ownsRow w.heap.size 83 1 (.slice (some ⟨w.heap.size, 0, none⟩) 0 0) 0 [] :=
    ⟨rfl, .inr ⟨_, 0, #[], rfl, Nat.le_refl _, heap_new (w := w) rfl (.cells #[] 83), Nat.le_refl _, by unfold maxLen; omega, rfl, rfl⟩⟩
  obtain ⟨v6, w6, k1, k2, k3, k4⟩ := run_row (w.alloc (.cells #[] 83)).drew w.heap.size 80 80 83 i0 _ 1 8 Tryd.underlying80 hi hz0 hz1 hz2 rfl (by decide) _ _ 0 (nw n) [] (wds m (nw n)) hown (set_srcc HS2.out) (wds_one _ _) (by unfold maxLen; omega) (by omega) (by show w.heap.size ≤ (w.alloc _).heap.size; rw [World.size_alloc]; exact Nat.le_succ _)
  rw [Nat.zero_add, List.nil_append] at k2
  obtain ⟨g2, cap2, cur, hv, hg2, hcells, hl, hm, hsz, htk⟩ : ∃ g2 cap2 cur, v6 = .slice (some ⟨g2, 0, none⟩) (nw n) cap2 ∧ w.heap.size ≤ g2 ∧ w6.heap[g2]? = some (.cells cur 83 (0, 0)) ∧ nw n ≤ cap2 ∧ cap2 ≤ maxLen ∧ cur.size = cap2 * 1 ∧ cur.toList.take (nw n * 1) = wds m (nw n) := by
    rcases k2.2 with ⟨rfl, _⟩ | h
    · rcases k4 with h | h <;> simp [Value.ownBlock] at h
    · exact h
  subst hv
  rw [Nat.mul_one] at hsz htk
  have hb6 : Below w.heap.size w w6 := hb2.grown k3 (by show w.heap.size ≤ (w.alloc _).heap.size; rw [World.size_alloc]; exact Nat.le_succ _) (fun j hj => (hown.lt j hj).1)
  have HS6 := hide (HS.out.keep hb6)
  obtain ⟨c10, c11, c12⟩ := cells3 HS1.out.hd
  obtain ⟨c20, c21, c22⟩ := cells3 HS2.out.hd
  obtain ⟨c60, c61, c62⟩ := cells3 HS6.out.hd
  have HR6 := hide k1
  have HFS := hide (show SetAt (w6.alloc (.cells #[.int .i64 (n : Nat), .int .i64 (cnt m n : Nat), .slice (some ⟨g2, 0, none⟩) (nw n) cap2] 82)) w6.heap.size g2 cap2 n m from
    ⟨heap_new rfl _, ⟨cur, heap_old hcells _, hsz, htk⟩, ⟨hl, hm⟩, HS.out.off, HS.out.small⟩)
  have hs6 := hb6.size
  have HFB := hide (hb6.alloc hs6 (.cells #[.int .i64 (n : Nat), .int .i64 (cnt m n : Nat), .slice (some ⟨g2, 0, none⟩) (nw n) cap2] 82))
  clear k1 k2 k3 k4 hb2 hb6 hown HS HS1 HS2 HS6 hcells hl hm hsz htk hS1
  go_enter Tryd.func34, Tryd.ntmps34
  go_wp2_with fail
  go_region_law (refine step_run 80 _ w6 _ _ _ rfl (.tmp 11) (.tmp 15) rfl rfl rfl HR6.out ?_)
  all_goals
    go_wp2_with fail
    go_ret
    exact ⟨w6.heap.size, g2, cap2, rfl, hs6, hg2, HFS.out, HFB.out⟩
end Go.Proofs.YtmkbbekeimnajaaDoor

/-! WOneForm: the walk of DocsetOneForm -/
namespace Go.Proofs.YtmkbbekeimnajaaDoor
open Go.RowKit Ds
theorem SetAt.apart {w w' : World} {S g cap n S2 g2 : Nat} {m : Nat → Bool} (h : SetAt w S g cap n m) (hf : Foot w w' (fun k => k = S2 ∨ k = g2)) (a : S ≠ S2) (b : S ≠ g2) (c : g ≠ S2) (d : g ≠ g2) : SetAt w' S g cap n m := by
  obtain ⟨cur, h1, h2, h3⟩ := h.ws
  exact ⟨(hf.block _ (heap_lt h.hd) (fun e => e.elim a b)).trans h.hd, ⟨cur, (hf.block _ (heap_lt h1) (fun e => e.elim c d)).trans h1, h2, h3⟩, h.cap, h.off, h.small⟩
theorem encS_inj {n : Nat} {m k : Nat → Bool} (h : encS n m = encS n k) : ∀ i, i < n → m i = k i := by
  have h1 : body n m (nb n) ++ [] = body n k (nb n) ++ [] := by
    have := List.append_cancel_left h
    rw [this]
  have h2 := (body_unique n m k (nb n) [] [] (Nat.le_refl _) h1).1
  exact fun i hi => h2 i hi (by unfold nb; omega)
theorem enc_ne {n i : Nat} {m : Nat → Bool} (hi : i < n) : encS n (put m i (!m i)) ≠ encS n m := fun e => by
  have := encS_inj e i hi
  unfold put at this
  rw [if_pos rfl] at this
  cases h : m i <;> rw [h] at this <;> cases this
theorem put_ne {i : Nat} {m : Nat → Bool} : m ≠ put m i (!m i) := fun e => by
  have := congrFun e i
  unfold put at this
  rw [if_pos rfl] at this
  cases h : m i <;> rw [h] at this <;> cases this
theorem bytes_diff (w : World) (v1 v2 : Value) (xs ys : List Nat) (h1 : Src w v1 xs) (h2 : Src w v2 ys) (hne : xs ≠ ys) :
    Calls Tryd.prog 28 #[v1, v2] w fun e w' => e = .returned (.bool false) ∧ w = w' := (bytes_equal w v1 v2 xs ys h1 h2).mono fun e w' ⟨he, hw⟩ => ⟨by rw [he, decide_eq_false hne], hw⟩
set_option maxRecDepth 100000 in
set_option maxHeartbeats 8000000 in
theorem oneform_walk (w : World) (T : DeBr w) (E : Nat → Addr) (hE : Errs w E allErrs) (hg : 25 ≤ w.heap.size) (ao : Option Addr) (k0 : Nat) (bs : List Nat) (h1 : Src w (.slice ao bs.length k0) bs) (hl1 : bs.length ≤ 140737488351232) (i : Int) :
    Calls Tryd.prog 7 #[.slice ao bs.length k0, .int .i64 i] w fun e w' => e = .returned (.bool true) ∧ Below w.heap.size w w' := by
  have HT := hide T
  have HE := hide hE
  have H1 := hide h1
  clear T hE h1
  go_enter Tryd.func7, Tryd.ntmps7
  go_wp2_with fail
  refine (fixed_any w E HE.out HT.out hg).mono ?_
  rintro e w1 ⟨rfl, hb1⟩
  have HB1 := hide hb1
  have z1 := hb1.size
  have HE1 := hide (HE.out.below hb1 (Nat.le_refl _) (ids_lt hg))
  have HS1 := hide (src_keep H1.out hb1)
  clear hb1
  go_wp2_with fail
  refine (decode_any w1 _ bs HS1.out hl1 E HE1.out (by omega)).mono ?_
  rintro e w2 ⟨hd, hb2⟩
  have HB2 := hide (HB1.out.trans (hb2.mono z1))
  have z2 := HB2.out.size
  clear hb2
  unfold DecOut at hd
  rcases hd with ⟨n, m, S, g, hn, hbs, rfl, hS, hgg, hs⟩ | ⟨hno, rfl⟩
  · have HS := hide hs
    have HBS := hide hbs
    have HP2 := hide (src_keep H1.out HB2.out)
    clear hs hbs
    go_wp2_with fail
    refine (encode_set w2 HS.out).mono ?_
    rintro e w3 ⟨q3, _, rfl, hh3, hb3⟩
    have HB3 := hide (HB2.out.trans (hb3.mono z2))
    have HS3 := hide (HS.out.keep hb3)
    have HQ3 := hide (src_encS hn hh3)
    have HP3 := hide (src_keep H1.out HB3.out)
    have z3 := HB3.out.size
    clear hh3 hb3 HS HP2
    have HY := hide (bytes_same w3 _ _ _ HQ3.out (by rw [← HBS.out]; exact HP3.out))
    go_wp2_with fail
    refine HY.out.mono ?_
    rintro e wz ⟨rfl, rfl⟩
    go_wp2_with fail
    refine (clone_any w3 HS3.out).mono ?_
    rintro e w4 ⟨S2, g2, cap2, rfl, hS2, hg2, hs4, hb4⟩
    have HB4 := hide (HB3.out.trans (hb4.mono z3))
    have HS4 := hide (HS3.out.keep hb4)
    have HT4 := hide hs4
    have z4 := HB4.out.size
    have z34 := hb4.size
    have hS3 := heap_lt HS3.out.hd
    have hg3 : g < w3.heap.size := by obtain ⟨cur, h, _⟩ := HS3.out.ws; exact heap_lt h
    have hSS : S ≠ S2 := by omega
    have hSg : S ≠ g2 := by omega
    have hgS : g ≠ S2 := by omega
    have hggg : g ≠ g2 := by omega
    have HLN := hide (len_any w4 HS4.out)
    clear hs4 hb4 HS3 HQ3 HP3 HY
    by_cases hi0 : i < 0
    · go_wp2_with fail
      go_ret
      exact ⟨rfl, HB4.out⟩
    by_cases hin : (n : Int) ≤ i
    · go_wp2_with fail
      refine HLN.out.mono ?_
      rintro e wz ⟨rfl, rfl⟩
      go_wp2_with fail
      go_ret
      exact ⟨rfl, HB4.out⟩
    obtain ⟨k, rfl⟩ := Int.eq_ofNat_of_zero_le (show 0 ≤ i by omega)
    have hkn : k < n := by omega
    have HHS := hide (has_in w4 HT4.out k hkn)
    have MUT : ∀ (w5 : World), SetAt w5 S2 g2 cap2 n (put m k (!m k)) → Foot w4 w5 (fun k => k = S2 ∨ k = g2) → Below w.heap.size w w5 ∧ SetAt w5 S g (nw n) n m := fun w5 h5 hf5 =>
      ⟨HB4.out.trans (hf5.below (fun k hk => by rcases hk with rfl | rfl <;> omega) (by omega)), HS4.out.apart hf5 hSS hSg hgS hggg⟩
    have HMUT := hide MUT
    clear MUT
    obtain ⟨b, hb⟩ : ∃ b, m k = b := ⟨_, rfl⟩
    have HMB := hide hb
    rw [hb] at HHS HMUT
    have hREM : b = true → Calls Tryd.prog 15 #[.pointer (some ⟨S2, 0, none⟩), .int .i64 (k : Nat)] w4 fun e w' => e = .returned (.tuple #[.bool true, .nilIface]) ∧ SetAt w' S2 g2 cap2 n (put m k (!b)) ∧ Foot w4 w' (fun k => k = S2 ∨ k = g2) := fun h => by
      subst h; exact rem_new w4 HT4.out k hkn hb
    have hADD : b = false → Calls Tryd.prog 16 #[.pointer (some ⟨S2, 0, none⟩), .int .i64 (k : Nat)] w4 fun e w' => e = .returned (.tuple #[.bool true, .nilIface]) ∧ SetAt w' S2 g2 cap2 n (put m k (!b)) ∧ Foot w4 w' (fun k => k = S2 ∨ k = g2) := fun h => by
      subst h; exact add_new w4 HT4.out k hkn hb
    have HREM := hide hREM
    have HADD := hide hADD
    clear hREM hADD hb
    cases b with
    | true =>
      go_wp2_with fail
      refine HLN.out.mono ?_
      rintro e wz ⟨rfl, rfl⟩
      go_wp2_with fail
      refine HHS.out.mono ?_
      rintro e wz ⟨rfl, rfl⟩
      go_wp2_with fail
      refine (HREM.out trivial).mono ?_
      rintro e w5 ⟨rfl, hs5, hf5⟩
      obtain ⟨hb5, hss5⟩ := HMUT.out w5 hs5 hf5
      have HB5 := hide hb5
      have HS5 := hide hss5
      have HT5 := hide hs5
      have z5 := hb5.size
      clear hb5 hss5 hs5 hf5 HHS HMUT HREM HADD HS4 HT4 HLN
      go_wp2_with fail
      refine (encode_set w5 HS5.out).mono ?_
      rintro e w6 ⟨q6, _, rfl, hh6, hb6⟩
      have HB6 := hide (HB5.out.trans (hb6.mono z5))
      have HS6 := hide (HS5.out.keep hb6)
      have HT6 := hide (HT5.out.keep hb6)
      have HQ6 := hide (src_encS hn hh6)
      have z6 := HB6.out.size
      clear hh6 hb6 HS5 HT5
      have HY := hide (bytes_same w6 _ _ _ HQ6.out (by rw [← HBS.out]; exact src_keep H1.out HB6.out))
      go_wp2_with fail
      refine HY.out.mono ?_
      rintro e wz ⟨rfl, rfl⟩
      clear HY
      go_wp2_with fail
      refine (encode_set w6 HT6.out).mono ?_
      rintro e w7 ⟨q7, _, rfl, hh7, hb7⟩
      have HB7 := hide (HB6.out.trans (hb7.mono z6))
      have HS7 := hide (HS6.out.keep hb7)
      have HT7 := hide (HT6.out.keep hb7)
      have HQ7 := hide (src_encS hn hh7)
      have z7 := HB7.out.size
      clear hh7 hb7 HS6 HT6
      have hne := enc_ne (m := m) hkn
      rw [HMB.out] at hne
      have hpn := put_ne (i := k) (m := m)
      rw [HMB.out] at hpn
      have HY := hide (bytes_diff w7 _ _ _ bs HQ7.out (src_keep H1.out HB7.out) (by rw [HBS.out]; exact hne))
      have HEQ := hide (equal_no w7 HS7.out HT7.out (fun _ => hpn))
      clear hne hpn
      go_wp2_with fail
      refine HY.out.mono ?_
      rintro e wz ⟨rfl, rfl⟩
      go_wp2_with fail
      refine HEQ.out.mono ?_
      rintro e wz ⟨rfl, q, rfl⟩
      have HS8 := hide (HS7.out.keep (below_drewN (Below.refl _ _) q))
      have HT8 := hide (HT7.out.keep (below_drewN (Below.refl _ _) q))
      have HB8 := hide (below_drewN HB7.out q)
      have hh1 := has_in _ HS8.out k hkn
      rw [HMB.out] at hh1
      have hh2 := has_in _ HT8.out k hkn
      unfold put at hh2
      rw [if_pos rfl] at hh2
      have HH1 := hide hh1
      have HH2 := hide hh2
      clear hh1 hh2 HY HEQ
      go_wp2_with fail
      refine HH1.out.mono ?_
      rintro e wz ⟨rfl, rfl⟩
      go_wp2_with fail
      refine HH2.out.mono ?_
      rintro e wz ⟨rfl, rfl⟩
      go_wp2_with fail
      go_ret
      exact ⟨rfl, HB8.out⟩
    | false =>
      go_wp2_with fail
      refine HLN.out.mono ?_
      rintro e wz ⟨rfl, rfl⟩
      go_wp2_with fail
      refine HHS.out.mono ?_
      rintro e wz ⟨rfl, rfl⟩
      go_wp2_with fail
      refine (HADD.out trivial).mono ?_
      rintro e w5 ⟨rfl, hs5, hf5⟩
      obtain ⟨hb5, hss5⟩ := HMUT.out w5 hs5 hf5
      have HB5 := hide hb5
      have HS5 := hide hss5
      have HT5 := hide hs5
      have z5 := hb5.size
      clear hb5 hss5 hs5 hf5 HHS HMUT HREM HADD HS4 HT4 HLN
      go_wp2_with fail
      refine (encode_set w5 HS5.out).mono ?_
      rintro e w6 ⟨q6, _, rfl, hh6, hb6⟩
      have HB6 := hide (HB5.out.trans (hb6.mono z5))
      have HS6 := hide (HS5.out.keep hb6)
      have HT6 := hide (HT5.out.keep hb6)
      have HQ6 := hide (src_encS hn hh6)
      have z6 := HB6.out.size
      clear hh6 hb6 HS5 HT5
      have HY := hide (bytes_same w6 _ _ _ HQ6.out (by rw [← HBS.out]; exact src_keep H1.out HB6.out))
      go_wp2_with fail
      refine HY.out.mono ?_
      rintro e wz ⟨rfl, rfl⟩
      clear HY
      go_wp2_with fail
      refine (encode_set w6 HT6.out).mono ?_
      rintro e w7 ⟨q7, _, rfl, hh7, hb7⟩
      have HB7 := hide (HB6.out.trans (hb7.mono z6))
      have HS7 := hide (HS6.out.keep hb7)
      have HT7 := hide (HT6.out.keep hb7)
      have HQ7 := hide (src_encS hn hh7)
      have z7 := HB7.out.size
      clear hh7 hb7 HS6 HT6
      have hne := enc_ne (m := m) hkn
      rw [HMB.out] at hne
      have hpn := put_ne (i := k) (m := m)
      rw [HMB.out] at hpn
      have HY := hide (bytes_diff w7 _ _ _ bs HQ7.out (src_keep H1.out HB7.out) (by rw [HBS.out]; exact hne))
      have HEQ := hide (equal_no w7 HS7.out HT7.out (fun _ => hpn))
      clear hne hpn
      go_wp2_with fail
      refine HY.out.mono ?_
      rintro e wz ⟨rfl, rfl⟩
      go_wp2_with fail
      refine HEQ.out.mono ?_
      rintro e wz ⟨rfl, q, rfl⟩
      have HS8 := hide (HS7.out.keep (below_drewN (Below.refl _ _) q))
      have HT8 := hide (HT7.out.keep (below_drewN (Below.refl _ _) q))
      have HB8 := hide (below_drewN HB7.out q)
      have hh1 := has_in _ HS8.out k hkn
      rw [HMB.out] at hh1
      have hh2 := has_in _ HT8.out k hkn
      unfold put at hh2
      rw [if_pos rfl] at hh2
      have HH1 := hide hh1
      have HH2 := hide hh2
      clear hh1 hh2 HY HEQ
      go_wp2_with fail
      refine HH1.out.mono ?_
      rintro e wz ⟨rfl, rfl⟩
      go_wp2_with fail
      refine HH2.out.mono ?_
      rintro e wz ⟨rfl, rfl⟩
      go_wp2_with fail
      go_ret
      exact ⟨rfl, HB8.out⟩
  · clear hno
    go_wp2_with fail
    go_ret
    exact ⟨rfl, HB2.out⟩
end Go.Proofs.YtmkbbekeimnajaaDoor
