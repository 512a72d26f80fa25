/- the algebra: mixed, And, Or, Minus, joined -/
import Derived.Test.YtmkbbekeimnajaaDoorMx
namespace Go.Proofs.YtmkbbekeimnajaaDoor
open Go.RowKit Ds
set_option maxRecDepth 100000 in
theorem fun_77 (w : World) (a b c : Nat) (h : bits .and .u64 (a : Int) (b : Int) = (c : Int)) :
    Calls Tryd.prog 77 #[.int .u64 (a : Nat), .int .u64 (b : Nat)] w fun e w' => e = .returned (.int .u64 (c : Nat)) ∧ w = w' := by
  go_enter Tryd.func77, Tryd.ntmps77
  go_wp2_with fail
  go_ret
  exact ⟨by first | rfl | rw [h], rfl⟩
set_option maxRecDepth 100000 in
set_option maxHeartbeats 2000000 in
theorem mixed_77 (w : World) {S1 g1 cap1 S2 g2 cap2 n : Nat} {m1 m2 : Nat → Bool} (h1 : SetAt w S1 g1 cap1 n m1) (h2 : SetAt w S2 g2 cap2 n m2) :
    Calls Tryd.prog 76 #[.pointer (some ⟨S1, 0, none⟩), .pointer (some ⟨S2, 0, none⟩), .func (.func 77) #[] #[]] w fun e w' => ∃ S g, e = .returned (.tuple #[.pointer (some ⟨S, 0, none⟩), .nilIface]) ∧ w.heap.size ≤ S ∧ w.heap.size ≤ g ∧ SetAt w' S g (nw n) n (fun i => m1 i && m2 i) ∧ Below w.heap.size w w' := by
  obtain ⟨a0, a1, a2⟩ := cells3 h1.hd
  obtain ⟨b0, b1, b2⟩ := cells3 h2.hd
  have hsm := h1.small
  have HS1 := hide h1
  have HS2 := hide h2
  have HEM := hide (fun q => empty_any (w.drewN q) n hsm)
  obtain ⟨mm, hmm⟩ : ∃ mm : Nat → Bool, (fun i => m1 i && m2 i) = mm := ⟨_, rfl⟩
  have hoff : ∀ i, n ≤ i → mm i = false := fun i hi => by rw [← hmm]; simp [h1.off i hi, h2.off i hi]
  have HMM := hide hmm
  have HOFF := hide hoff
  rw [hmm]
  clear h1 h2 hmm hoff
  go_enter Tryd.func76, Tryd.ntmps76
  go_wp2_with fail
  go_quiet (fail)
  go_wp2_with fail
  refine (HEM.out _).mono ?_
  rintro e w1 ⟨S, g, rfl, hS, hg, hs, hb⟩
  have hS0 : w.heap.size ≤ S := hS
  have hg0 : w.heap.size ≤ g := hg
  have HB1 := hide (show Below w.heap.size w w1 from (below_drewN (Below.refl _ w) _).trans hb)
  have HH1 := hide (show Half w1 S g n (cnt mm (64 * 0)) (wds (below mm (64 * 0)) (nw n)) from by
    show Half w1 S g n (cnt mm 0) (wds (below mm 0) (nw n))
    rw [wds_below_zero]
    have := Half.of hs
    rw [cnt_none] at this
    exact this)
  obtain ⟨c0, c1, c2⟩ := cells3 hs.hd
  clear hS hg hs hb a0 a1 a2 b0 b1 b2
  obtain ⟨k, hk⟩ : ∃ k, nw n = k := ⟨_, rfl⟩
  have hkl : k ≤ 16384 := by rw [← hk]; unfold nw; omega
  rw [hk] at c2
  have HK := hide hk
  clear hk
  go_wp2_with fail
  clear c0 c1 c2
  go_loopw [34] (fun i wr => ∃ j : Nat, i = .int .i64 (j : Nat) ∧ j ≤ k ∧ Half wr S g n (cnt mm (64 * j)) (wds (below mm (64 * j)) (nw n)) ∧ Below w.heap.size w wr) (fun i _ => k - (intOf i).toNat)
  case atStart => exact ⟨0, rfl, Nat.zero_le _, HH1.out, HB1.out⟩
  case round =>
    obtain ⟨j, rfl, hj, hh, hb⟩ := hrel
    have HH := hide hh
    have HB := hide hb
    have zr := hb.size
    clear hh hb HH1 HB1
    by_cases hlt : j < k
    · have hji : (j : Int) < (k : Int) := by omega
      have hjn : j < nw n := by rw [HK.out]; exact hlt
      have hs1 := HS1.out.keep (HB.out.mono (Nat.le_refl _))
      have hs2 := HS2.out.keep (HB.out.mono (Nat.le_refl _))
      obtain ⟨a0, a1, a2⟩ := cells3 hs1.hd
      obtain ⟨b0, b1, b2⟩ := cells3 hs2.hd
      obtain ⟨c0, c1, c2⟩ := cells3 HH.out.hd
      have aw := hs1.cell hjn
      have bw := hs2.cell hjn
      have hcell := HH.out.cell (wds_get (below mm (64 * j)) hjn)
      have hc0 := hcell.1
      have hf0 := hcell.2
      have HF := hide (fun w => fun_77 w (word m1 j) (word m2 j) (word mm j) (by rw [← HMM.out]; exact word_and m1 m2 j))
      have HO := hide (fun w => ones_any w (word mm j) (word_lt' mm j))
      have HW := hide (show Half ((wr.setCell ⟨g, j, none⟩ (.int .u64 (word mm j : Nat))).drew) S g n (cnt mm (64 * j)) (wds (below mm (64 * (j + 1))) (nw n)) from by
        rw [← wds_below]
        exact (HH.out.word j _).keep (below_drewN (Below.refl _ _) 1))
      have hcap1 := hs1.cap
      have hcap2 := hs2.cap
      have hcw := cnt_words mm j
      have hcb := cnt_bd' HOFF.out (64 * j)
      have hcb2 := cnt_bd' HOFF.out (64 * (j + 1))
      rw [HK.out] at a2 b2 c2 hcap1 hcap2
      have HCW := hide hcw
      clear hs1 hs2 hcell hcw
      go_wp2_with fail
      refine wp_region_still_tail 22 (by kernel_rfl) (by kernel_rfl) ?_
      simp only [List.take_succ_cons, List.take_zero, List.drop_succ_cons, List.drop_zero]
      repeat still_step
      still_call ((HF.out _).mono fun _ _ h => ⟨h.1, h.2.symm⟩)
      repeat still_step
      refine wpStill_nil ?_
      go_upto_region 8 with (fail)
      generalize hX : (wr.setCell ⟨g, j, none⟩ (.int .u64 (word mm j : Nat))).drew = W
      have HW2 := hide (show Half W S g n (cnt mm (64 * j)) (wds (below mm (64 * (j + 1))) (nw n)) from by rw [← hX]; exact HW.out)
      have HB2 := hide (show Below w.heap.size w W from by rw [← hX]; exact below_drewN (below_set HB.out hg0 _) 1)
      clear hX c0 c1 c2 hc0 hf0 aw bw a0 a1 a2 b0 b1 b2 HW HF HH HB
      obtain ⟨c0, c1, c2⟩ := cells3 HW2.out.hd
      have hwc := HW2.out.cell (wds_get (below mm (64 * (j + 1))) hjn)
      rw [word_below_yes] at hwc
      have hw0 := hwc.1
      have hfc := free_at HW2.out.hd 1
      have hcw := HCW.out
      have hsum : IntKind.i64.wrap ((cnt mm (64 * j) : Int) + (Go.Lib.onesCount (word mm j) : Int)) = ((cnt mm (64 * (j + 1)) : Nat) : Int) := by rw [IntKind.wrap_i64]; omega
      have HC := hide (show Half ((W.setCell ⟨S, 1, none⟩ (.int .i64 (cnt mm (64 * (j + 1)) : Nat))).drew) S g n (cnt mm (64 * (j + 1))) (wds (below mm (64 * (j + 1))) (nw n)) from
        (HW2.out.count _).keep (below_drewN (Below.refl _ _) 1))
      have HB3 := hide (show Below w.heap.size w ((W.setCell ⟨S, 1, none⟩ (.int .i64 (cnt mm (64 * (j + 1)) : Nat))).drew) from below_drewN (below_set HB2.out hS0 _) 1)
      rw [HK.out] at c2
      clear hcw hwc
      refine wp_region_still_tail 15 (by kernel_rfl) (by kernel_rfl) ?_
      simp only [List.take_succ_cons, List.take_zero, List.drop_succ_cons, List.drop_zero]
      repeat still_step
      still_call ((HO.out _).mono fun _ _ h => ⟨h.1, h.2.symm⟩)
      repeat still_step
      refine wpStill_nil ?_
      go_wp2_with fail
      exact ⟨⟨j + 1, vi (by omega), by omega, HC.out, HB3.out⟩, by simp only [intOf]; omega⟩
    · obtain rfl : k = j := by omega
      have HFIN := hide (show SetAt wr S g (nw n) n mm from Half.set (by
        have h := HH.out
        rw [← HK.out] at h
        rw [cnt_all HOFF.out, wds_below_all] at h
        exact h) hsm HOFF.out)
      go_wp2_with fail
      go_ret2
      exact ⟨S, g, rfl, hS0, hg0, HFIN.out, HB.out⟩
set_option maxRecDepth 100000 in
theorem join_56 (w : World) {S1 g1 cap1 S2 g2 cap2 n : Nat} {m1 m2 : Nat → Bool} (h1 : SetAt w S1 g1 cap1 n m1) (h2 : SetAt w S2 g2 cap2 n m2) :
    Calls Tryd.prog 56 #[.pointer (some ⟨S1, 0, none⟩), .pointer (some ⟨S2, 0, none⟩)] w fun e w' => ∃ S g, e = .returned (.tuple #[.pointer (some ⟨S, 0, none⟩), .nilIface]) ∧ w.heap.size ≤ S ∧ w.heap.size ≤ g ∧ SetAt w' S g (nw n) n (fun i => m1 i && m2 i) ∧ Below w.heap.size w w' := by
  have HM := hide (mixed_77 w h1 h2)
  clear h1 h2
  go_enter Tryd.func56, Tryd.ntmps56
  go_wp2_with fail
  refine HM.out.mono ?_
  rintro e w1 ⟨S, g, rfl, hS, hg, hs, hb⟩
  have HS := hide hs
  have HB := hide hb
  clear hs hb
  go_wp2_with fail
  go_ret2
  exact ⟨S, g, rfl, hS, hg, HS.out, HB.out⟩
set_option maxRecDepth 100000 in
theorem joined_1 (w : World) {S1 g1 cap1 S2 g2 cap2 n : Nat} {m1 m2 : Nat → Bool} (h1 : SetAt w S1 g1 cap1 n m1) (h2 : SetAt w S2 g2 cap2 n m2) :
    Calls Tryd.prog 26 #[.int .i64 1, .pointer (some ⟨S1, 0, none⟩), .pointer (some ⟨S2, 0, none⟩)] w fun e w' => ∃ S g, e = .returned (.pointer (some ⟨S, 0, none⟩)) ∧ w.heap.size ≤ S ∧ w.heap.size ≤ g ∧ SetAt w' S g (nw n) n (fun i => m1 i && m2 i) ∧ Below w.heap.size w w' := by
  have HM := hide (join_56 w h1 h2)
  clear h1 h2
  go_enter Tryd.func26, Tryd.ntmps26
  go_wp2_with fail
  refine HM.out.mono ?_
  rintro e w1 ⟨S, g, rfl, hS, hg, hs, hb⟩
  have HS := hide hs
  have HB := hide hb
  clear hs hb
  go_wp2_with fail
  go_ret
  exact ⟨S, g, rfl, hS, hg, HS.out, HB.out⟩
set_option maxRecDepth 100000 in
theorem fun_78 (w : World) (a b c : Nat) (h : bits .or .u64 (a : Int) (b : Int) = (c : Int)) :
    Calls Tryd.prog 78 #[.int .u64 (a : Nat), .int .u64 (b : Nat)] w fun e w' => e = .returned (.int .u64 (c : Nat)) ∧ w = w' := by
  go_enter Tryd.func78, Tryd.ntmps78
  go_wp2_with fail
  go_ret
  exact ⟨by first | rfl | rw [h], rfl⟩
set_option maxRecDepth 100000 in
set_option maxHeartbeats 2000000 in
theorem mixed_78 (w : World) {S1 g1 cap1 S2 g2 cap2 n : Nat} {m1 m2 : Nat → Bool} (h1 : SetAt w S1 g1 cap1 n m1) (h2 : SetAt w S2 g2 cap2 n m2) :
    Calls Tryd.prog 76 #[.pointer (some ⟨S1, 0, none⟩), .pointer (some ⟨S2, 0, none⟩), .func (.func 78) #[] #[]] w fun e w' => ∃ S g, e = .returned (.tuple #[.pointer (some ⟨S, 0, none⟩), .nilIface]) ∧ w.heap.size ≤ S ∧ w.heap.size ≤ g ∧ SetAt w' S g (nw n) n (fun i => m1 i || m2 i) ∧ Below w.heap.size w w' := by
  obtain ⟨a0, a1, a2⟩ := cells3 h1.hd
  obtain ⟨b0, b1, b2⟩ := cells3 h2.hd
  have hsm := h1.small
  have HS1 := hide h1
  have HS2 := hide h2
  have HEM := hide (fun q => empty_any (w.drewN q) n hsm)
  obtain ⟨mm, hmm⟩ : ∃ mm : Nat → Bool, (fun i => m1 i || m2 i) = mm := ⟨_, rfl⟩
  have hoff : ∀ i, n ≤ i → mm i = false := fun i hi => by rw [← hmm]; simp [h1.off i hi, h2.off i hi]
  have HMM := hide hmm
  have HOFF := hide hoff
  rw [hmm]
  clear h1 h2 hmm hoff
  go_enter Tryd.func76, Tryd.ntmps76
  go_wp2_with fail
  go_quiet (fail)
  go_wp2_with fail
  refine (HEM.out _).mono ?_
  rintro e w1 ⟨S, g, rfl, hS, hg, hs, hb⟩
  have hS0 : w.heap.size ≤ S := hS
  have hg0 : w.heap.size ≤ g := hg
  have HB1 := hide (show Below w.heap.size w w1 from (below_drewN (Below.refl _ w) _).trans hb)
  have HH1 := hide (show Half w1 S g n (cnt mm (64 * 0)) (wds (below mm (64 * 0)) (nw n)) from by
    show Half w1 S g n (cnt mm 0) (wds (below mm 0) (nw n))
    rw [wds_below_zero]
    have := Half.of hs
    rw [cnt_none] at this
    exact this)
  obtain ⟨c0, c1, c2⟩ := cells3 hs.hd
  clear hS hg hs hb a0 a1 a2 b0 b1 b2
  obtain ⟨k, hk⟩ : ∃ k, nw n = k := ⟨_, rfl⟩
  have hkl : k ≤ 16384 := by rw [← hk]; unfold nw; omega
  rw [hk] at c2
  have HK := hide hk
  clear hk
  go_wp2_with fail
  clear c0 c1 c2
  go_loopw [34] (fun i wr => ∃ j : Nat, i = .int .i64 (j : Nat) ∧ j ≤ k ∧ Half wr S g n (cnt mm (64 * j)) (wds (below mm (64 * j)) (nw n)) ∧ Below w.heap.size w wr) (fun i _ => k - (intOf i).toNat)
  case atStart => exact ⟨0, rfl, Nat.zero_le _, HH1.out, HB1.out⟩
  case round =>
    obtain ⟨j, rfl, hj, hh, hb⟩ := hrel
    have HH := hide hh
    have HB := hide hb
    have zr := hb.size
    clear hh hb HH1 HB1
    by_cases hlt : j < k
    · have hji : (j : Int) < (k : Int) := by omega
      have hjn : j < nw n := by rw [HK.out]; exact hlt
      have hs1 := HS1.out.keep (HB.out.mono (Nat.le_refl _))
      have hs2 := HS2.out.keep (HB.out.mono (Nat.le_refl _))
      obtain ⟨a0, a1, a2⟩ := cells3 hs1.hd
      obtain ⟨b0, b1, b2⟩ := cells3 hs2.hd
      obtain ⟨c0, c1, c2⟩ := cells3 HH.out.hd
      have aw := hs1.cell hjn
      have bw := hs2.cell hjn
      have hcell := HH.out.cell (wds_get (below mm (64 * j)) hjn)
      have hc0 := hcell.1
      have hf0 := hcell.2
      have HF := hide (fun w => fun_78 w (word m1 j) (word m2 j) (word mm j) (by rw [← HMM.out]; exact word_or m1 m2 j))
      have HO := hide (fun w => ones_any w (word mm j) (word_lt' mm j))
      have HW := hide (show Half ((wr.setCell ⟨g, j, none⟩ (.int .u64 (word mm j : Nat))).drew) S g n (cnt mm (64 * j)) (wds (below mm (64 * (j + 1))) (nw n)) from by
        rw [← wds_below]
        exact (HH.out.word j _).keep (below_drewN (Below.refl _ _) 1))
      have hcap1 := hs1.cap
      have hcap2 := hs2.cap
      have hcw := cnt_words mm j
      have hcb := cnt_bd' HOFF.out (64 * j)
      have hcb2 := cnt_bd' HOFF.out (64 * (j + 1))
      rw [HK.out] at a2 b2 c2 hcap1 hcap2
      have HCW := hide hcw
      clear hs1 hs2 hcell hcw
      go_wp2_with fail
      refine wp_region_still_tail 22 (by kernel_rfl) (by kernel_rfl) ?_
      simp only [List.take_succ_cons, List.take_zero, List.drop_succ_cons, List.drop_zero]
      repeat still_step
      still_call ((HF.out _).mono fun _ _ h => ⟨h.1, h.2.symm⟩)
      repeat still_step
      refine wpStill_nil ?_
      go_upto_region 8 with (fail)
      generalize hX : (wr.setCell ⟨g, j, none⟩ (.int .u64 (word mm j : Nat))).drew = W
      have HW2 := hide (show Half W S g n (cnt mm (64 * j)) (wds (below mm (64 * (j + 1))) (nw n)) from by rw [← hX]; exact HW.out)
      have HB2 := hide (show Below w.heap.size w W from by rw [← hX]; exact below_drewN (below_set HB.out hg0 _) 1)
      clear hX c0 c1 c2 hc0 hf0 aw bw a0 a1 a2 b0 b1 b2 HW HF HH HB
      obtain ⟨c0, c1, c2⟩ := cells3 HW2.out.hd
      have hwc := HW2.out.cell (wds_get (below mm (64 * (j + 1))) hjn)
      rw [word_below_yes] at hwc
      have hw0 := hwc.1
      have hfc := free_at HW2.out.hd 1
      have hcw := HCW.out
      have hsum : IntKind.i64.wrap ((cnt mm (64 * j) : Int) + (Go.Lib.onesCount (word mm j) : Int)) = ((cnt mm (64 * (j + 1)) : Nat) : Int) := by rw [IntKind.wrap_i64]; omega
      have HC := hide (show Half ((W.setCell ⟨S, 1, none⟩ (.int .i64 (cnt mm (64 * (j + 1)) : Nat))).drew) S g n (cnt mm (64 * (j + 1))) (wds (below mm (64 * (j + 1))) (nw n)) from
        (HW2.out.count _).keep (below_drewN (Below.refl _ _) 1))
      have HB3 := hide (show Below w.heap.size w ((W.setCell ⟨S, 1, none⟩ (.int .i64 (cnt mm (64 * (j + 1)) : Nat))).drew) from below_drewN (below_set HB2.out hS0 _) 1)
      rw [HK.out] at c2
      clear hcw hwc
      refine wp_region_still_tail 15 (by kernel_rfl) (by kernel_rfl) ?_
      simp only [List.take_succ_cons, List.take_zero, List.drop_succ_cons, List.drop_zero]
      repeat still_step
      still_call ((HO.out _).mono fun _ _ h => ⟨h.1, h.2.symm⟩)
      repeat still_step
      refine wpStill_nil ?_
      go_wp2_with fail
      exact ⟨⟨j + 1, vi (by omega), by omega, HC.out, HB3.out⟩, by simp only [intOf]; omega⟩
    · obtain rfl : k = j := by omega
      have HFIN := hide (show SetAt wr S g (nw n) n mm from Half.set (by
        have h := HH.out
        rw [← HK.out] at h
        rw [cnt_all HOFF.out, wds_below_all] at h
        exact h) hsm HOFF.out)
      go_wp2_with fail
      go_ret2
      exact ⟨S, g, rfl, hS0, hg0, HFIN.out, HB.out⟩
set_option maxRecDepth 100000 in
theorem join_57 (w : World) {S1 g1 cap1 S2 g2 cap2 n : Nat} {m1 m2 : Nat → Bool} (h1 : SetAt w S1 g1 cap1 n m1) (h2 : SetAt w S2 g2 cap2 n m2) :
    Calls Tryd.prog 57 #[.pointer (some ⟨S1, 0, none⟩), .pointer (some ⟨S2, 0, none⟩)] w fun e w' => ∃ S g, e = .returned (.tuple #[.pointer (some ⟨S, 0, none⟩), .nilIface]) ∧ w.heap.size ≤ S ∧ w.heap.size ≤ g ∧ SetAt w' S g (nw n) n (fun i => m1 i || m2 i) ∧ Below w.heap.size w w' := by
  have HM := hide (mixed_78 w h1 h2)
  clear h1 h2
  go_enter Tryd.func57, Tryd.ntmps57
  go_wp2_with fail
  refine HM.out.mono ?_
  rintro e w1 ⟨S, g, rfl, hS, hg, hs, hb⟩
  have HS := hide hs
  have HB := hide hb
  clear hs hb
  go_wp2_with fail
  go_ret2
  exact ⟨S, g, rfl, hS, hg, HS.out, HB.out⟩
set_option maxRecDepth 100000 in
theorem joined_2 (w : World) {S1 g1 cap1 S2 g2 cap2 n : Nat} {m1 m2 : Nat → Bool} (h1 : SetAt w S1 g1 cap1 n m1) (h2 : SetAt w S2 g2 cap2 n m2) :
    Calls Tryd.prog 26 #[.int .i64 2, .pointer (some ⟨S1, 0, none⟩), .pointer (some ⟨S2, 0, none⟩)] w fun e w' => ∃ S g, e = .returned (.pointer (some ⟨S, 0, none⟩)) ∧ w.heap.size ≤ S ∧ w.heap.size ≤ g ∧ SetAt w' S g (nw n) n (fun i => m1 i || m2 i) ∧ Below w.heap.size w w' := by
  have HM := hide (join_57 w h1 h2)
  clear h1 h2
  go_enter Tryd.func26, Tryd.ntmps26
  go_wp2_with fail
  refine HM.out.mono ?_
  rintro e w1 ⟨S, g, rfl, hS, hg, hs, hb⟩
  have HS := hide hs
  have HB := hide hb
  clear hs hb
  go_wp2_with fail
  go_ret
  exact ⟨S, g, rfl, hS, hg, HS.out, HB.out⟩
set_option maxRecDepth 100000 in
theorem fun_79 (w : World) (a b c : Nat) (h : bits .andNot .u64 (a : Int) (b : Int) = (c : Int)) :
    Calls Tryd.prog 79 #[.int .u64 (a : Nat), .int .u64 (b : Nat)] w fun e w' => e = .returned (.int .u64 (c : Nat)) ∧ w = w' := by
  go_enter Tryd.func79, Tryd.ntmps79
  go_wp2_with fail
  go_ret
  exact ⟨by first | rfl | rw [h], rfl⟩
set_option maxRecDepth 100000 in
set_option maxHeartbeats 2000000 in
theorem mixed_79 (w : World) {S1 g1 cap1 S2 g2 cap2 n : Nat} {m1 m2 : Nat → Bool} (h1 : SetAt w S1 g1 cap1 n m1) (h2 : SetAt w S2 g2 cap2 n m2) :
    Calls Tryd.prog 76 #[.pointer (some ⟨S1, 0, none⟩), .pointer (some ⟨S2, 0, none⟩), .func (.func 79) #[] #[]] w fun e w' => ∃ S g, e = .returned (.tuple #[.pointer (some ⟨S, 0, none⟩), .nilIface]) ∧ w.heap.size ≤ S ∧ w.heap.size ≤ g ∧ SetAt w' S g (nw n) n (fun i => m1 i && !m2 i) ∧ Below w.heap.size w w' := by
  obtain ⟨a0, a1, a2⟩ := cells3 h1.hd
  obtain ⟨b0, b1, b2⟩ := cells3 h2.hd
  have hsm := h1.small
  have HS1 := hide h1
  have HS2 := hide h2
  have HEM := hide (fun q => empty_any (w.drewN q) n hsm)
  obtain ⟨mm, hmm⟩ : ∃ mm : Nat → Bool, (fun i => m1 i && !m2 i) = mm := ⟨_, rfl⟩
  have hoff : ∀ i, n ≤ i → mm i = false := fun i hi => by rw [← hmm]; simp [h1.off i hi, h2.off i hi]
  have HMM := hide hmm
  have HOFF := hide hoff
  rw [hmm]
  clear h1 h2 hmm hoff
  go_enter Tryd.func76, Tryd.ntmps76
  go_wp2_with fail
  go_quiet (fail)
  go_wp2_with fail
  refine (HEM.out _).mono ?_
  rintro e w1 ⟨S, g, rfl, hS, hg, hs, hb⟩
  have hS0 : w.heap.size ≤ S := hS
  have hg0 : w.heap.size ≤ g := hg
  have HB1 := hide (show Below w.heap.size w w1 from (below_drewN (Below.refl _ w) _).trans hb)
  have HH1 := hide (show Half w1 S g n (cnt mm (64 * 0)) (wds (below mm (64 * 0)) (nw n)) from by
    show Half w1 S g n (cnt mm 0) (wds (below mm 0) (nw n))
    rw [wds_below_zero]
    have := Half.of hs
    rw [cnt_none] at this
    exact this)
  obtain ⟨c0, c1, c2⟩ := cells3 hs.hd
  clear hS hg hs hb a0 a1 a2 b0 b1 b2
  obtain ⟨k, hk⟩ : ∃ k, nw n = k := ⟨_, rfl⟩
  have hkl : k ≤ 16384 := by rw [← hk]; unfold nw; omega
  rw [hk] at c2
  have HK := hide hk
  clear hk
  go_wp2_with fail
  clear c0 c1 c2
  go_loopw [34] (fun i wr => ∃ j : Nat, i = .int .i64 (j : Nat) ∧ j ≤ k ∧ Half wr S g n (cnt mm (64 * j)) (wds (below mm (64 * j)) (nw n)) ∧ Below w.heap.size w wr) (fun i _ => k - (intOf i).toNat)
  case atStart => exact ⟨0, rfl, Nat.zero_le _, HH1.out, HB1.out⟩
  case round =>
    obtain ⟨j, rfl, hj, hh, hb⟩ := hrel
    have HH := hide hh
    have HB := hide hb
    have zr := hb.size
    clear hh hb HH1 HB1
    by_cases hlt : j < k
    · have hji : (j : Int) < (k : Int) := by omega
      have hjn : j < nw n := by rw [HK.out]; exact hlt
      have hs1 := HS1.out.keep (HB.out.mono (Nat.le_refl _))
      have hs2 := HS2.out.keep (HB.out.mono (Nat.le_refl _))
      obtain ⟨a0, a1, a2⟩ := cells3 hs1.hd
      obtain ⟨b0, b1, b2⟩ := cells3 hs2.hd
      obtain ⟨c0, c1, c2⟩ := cells3 HH.out.hd
      have aw := hs1.cell hjn
      have bw := hs2.cell hjn
      have hcell := HH.out.cell (wds_get (below mm (64 * j)) hjn)
      have hc0 := hcell.1
      have hf0 := hcell.2
      have HF := hide (fun w => fun_79 w (word m1 j) (word m2 j) (word mm j) (by rw [← HMM.out]; exact word_minus m1 m2 j))
      have HO := hide (fun w => ones_any w (word mm j) (word_lt' mm j))
      have HW := hide (show Half ((wr.setCell ⟨g, j, none⟩ (.int .u64 (word mm j : Nat))).drew) S g n (cnt mm (64 * j)) (wds (below mm (64 * (j + 1))) (nw n)) from by
        rw [← wds_below]
        exact (HH.out.word j _).keep (below_drewN (Below.refl _ _) 1))
      have hcap1 := hs1.cap
      have hcap2 := hs2.cap
      have hcw := cnt_words mm j
      have hcb := cnt_bd' HOFF.out (64 * j)
      have hcb2 := cnt_bd' HOFF.out (64 * (j + 1))
      rw [HK.out] at a2 b2 c2 hcap1 hcap2
      have HCW := hide hcw
      clear hs1 hs2 hcell hcw
      go_wp2_with fail
      refine wp_region_still_tail 22 (by kernel_rfl) (by kernel_rfl) ?_
      simp only [List.take_succ_cons, List.take_zero, List.drop_succ_cons, List.drop_zero]
      repeat still_step
      still_call ((HF.out _).mono fun _ _ h => ⟨h.1, h.2.symm⟩)
      repeat still_step
      refine wpStill_nil ?_
      go_upto_region 8 with (fail)
      generalize hX : (wr.setCell ⟨g, j, none⟩ (.int .u64 (word mm j : Nat))).drew = W
      have HW2 := hide (show Half W S g n (cnt mm (64 * j)) (wds (below mm (64 * (j + 1))) (nw n)) from by rw [← hX]; exact HW.out)
      have HB2 := hide (show Below w.heap.size w W from by rw [← hX]; exact below_drewN (below_set HB.out hg0 _) 1)
      clear hX c0 c1 c2 hc0 hf0 aw bw a0 a1 a2 b0 b1 b2 HW HF HH HB
      obtain ⟨c0, c1, c2⟩ := cells3 HW2.out.hd
      have hwc := HW2.out.cell (wds_get (below mm (64 * (j + 1))) hjn)
      rw [word_below_yes] at hwc
      have hw0 := hwc.1
      have hfc := free_at HW2.out.hd 1
      have hcw := HCW.out
      have hsum : IntKind.i64.wrap ((cnt mm (64 * j) : Int) + (Go.Lib.onesCount (word mm j) : Int)) = ((cnt mm (64 * (j + 1)) : Nat) : Int) := by rw [IntKind.wrap_i64]; omega
      have HC := hide (show Half ((W.setCell ⟨S, 1, none⟩ (.int .i64 (cnt mm (64 * (j + 1)) : Nat))).drew) S g n (cnt mm (64 * (j + 1))) (wds (below mm (64 * (j + 1))) (nw n)) from
        (HW2.out.count _).keep (below_drewN (Below.refl _ _) 1))
      have HB3 := hide (show Below w.heap.size w ((W.setCell ⟨S, 1, none⟩ (.int .i64 (cnt mm (64 * (j + 1)) : Nat))).drew) from below_drewN (below_set HB2.out hS0 _) 1)
      rw [HK.out] at c2
      clear hcw hwc
      refine wp_region_still_tail 15 (by kernel_rfl) (by kernel_rfl) ?_
      simp only [List.take_succ_cons, List.take_zero, List.drop_succ_cons, List.drop_zero]
      repeat still_step
      still_call ((HO.out _).mono fun _ _ h => ⟨h.1, h.2.symm⟩)
      repeat still_step
      refine wpStill_nil ?_
      go_wp2_with fail
      exact ⟨⟨j + 1, vi (by omega), by omega, HC.out, HB3.out⟩, by simp only [intOf]; omega⟩
    · obtain rfl : k = j := by omega
      have HFIN := hide (show SetAt wr S g (nw n) n mm from Half.set (by
        have h := HH.out
        rw [← HK.out] at h
        rw [cnt_all HOFF.out, wds_below_all] at h
        exact h) hsm HOFF.out)
      go_wp2_with fail
      go_ret2
      exact ⟨S, g, rfl, hS0, hg0, HFIN.out, HB.out⟩
set_option maxRecDepth 100000 in
theorem join_58 (w : World) {S1 g1 cap1 S2 g2 cap2 n : Nat} {m1 m2 : Nat → Bool} (h1 : SetAt w S1 g1 cap1 n m1) (h2 : SetAt w S2 g2 cap2 n m2) :
    Calls Tryd.prog 58 #[.pointer (some ⟨S1, 0, none⟩), .pointer (some ⟨S2, 0, none⟩)] w fun e w' => ∃ S g, e = .returned (.tuple #[.pointer (some ⟨S, 0, none⟩), .nilIface]) ∧ w.heap.size ≤ S ∧ w.heap.size ≤ g ∧ SetAt w' S g (nw n) n (fun i => m1 i && !m2 i) ∧ Below w.heap.size w w' := by
  have HM := hide (mixed_79 w h1 h2)
  clear h1 h2
  go_enter Tryd.func58, Tryd.ntmps58
  go_wp2_with fail
  refine HM.out.mono ?_
  rintro e w1 ⟨S, g, rfl, hS, hg, hs, hb⟩
  have HS := hide hs
  have HB := hide hb
  clear hs hb
  go_wp2_with fail
  go_ret2
  exact ⟨S, g, rfl, hS, hg, HS.out, HB.out⟩
set_option maxRecDepth 100000 in
theorem joined_3 (w : World) {S1 g1 cap1 S2 g2 cap2 n : Nat} {m1 m2 : Nat → Bool} (h1 : SetAt w S1 g1 cap1 n m1) (h2 : SetAt w S2 g2 cap2 n m2) :
    Calls Tryd.prog 26 #[.int .i64 3, .pointer (some ⟨S1, 0, none⟩), .pointer (some ⟨S2, 0, none⟩)] w fun e w' => ∃ S g, e = .returned (.pointer (some ⟨S, 0, none⟩)) ∧ w.heap.size ≤ S ∧ w.heap.size ≤ g ∧ SetAt w' S g (nw n) n (fun i => m1 i && !m2 i) ∧ Below w.heap.size w w' := by
  have HM := hide (join_58 w h1 h2)
  clear h1 h2
  go_enter Tryd.func26, Tryd.ntmps26
  go_wp2_with fail
  refine HM.out.mono ?_
  rintro e w1 ⟨S, g, rfl, hS, hg, hs, hb⟩
  have HS := hide hs
  have HB := hide hb
  clear hs hb
  go_wp2_with fail
  go_ret
  exact ⟨S, g, rfl, hS, hg, HS.out, HB.out⟩
end Go.Proofs.YtmkbbekeimnajaaDoor
