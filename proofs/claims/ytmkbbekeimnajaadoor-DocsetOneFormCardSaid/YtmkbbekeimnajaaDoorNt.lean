/- the complement -/
import Derived.Test.YtmkbbekeimnajaaDoorMx
namespace Go.Proofs.YtmkbbekeimnajaaDoor
open Go.RowKit Ds
def neg (m : Nat → Bool) (n : Nat) : Nat → Bool := fun i => decide (i < n) && !m i
theorem neg_off (m : Nat → Bool) (n : Nat) : ∀ i, n ≤ i → neg m n i = false := fun i hi => by unfold neg; rw [decide_eq_false (by omega)]; rfl
theorem cnt_neg (m : Nat → Bool) (n : Nat) : cnt (neg m n) n = n - cnt m n := by
  rw [← cnt_inv m n]
  exact cnt_congr fun i hi => by unfold neg inv; rw [decide_eq_true hi]; rfl
theorem xor_word (m : Nat → Bool) (j : Nat) : bits .xor .u64 (if IntKind.u64.signed = true then -1 else IntKind.u64.max) (word m j : Int) = (word (inv m) j : Int) := by
  have hw := word_lt' (inv m) j
  have hx : (BitVec.ofNat 64 18446744073709551615 ^^^ BitVec.ofNat 64 (word m j)).toNat = word (inv m) j := by
    refine num_ext (BitVec.isLt _) fun k hk => ?_
    have h1 : (BitVec.ofNat 64 18446744073709551615).getLsbD k = true := by
      have : (BitVec.ofNat 64 18446744073709551615) = BitVec.allOnes 64 := by decide
      rw [this, BitVec.getLsbD_allOnes]; simp [hk]
    rw [BitVec.testBit_toNat, BitVec.getLsbD_xor, h1, BitVec.getLsbD_ofNat, word_bit]
    unfold inv
    simp [hk]
  show IntKind.u64.wrap ((BitVec.ofInt 64 ((18446744073709551615 : Nat) : Int) ^^^ BitVec.ofInt 64 ((word m j : Nat) : Int)).toNat : Int) = _
  rw [BitVec.ofInt_natCast, BitVec.ofInt_natCast, hx, IntKind.wrap_u64]
  omega
theorem word_cut (m : Nat → Bool) (n : Nat) : word (inv m) (n / 64) &&& (2 ^ (n % 64) - 1) = word (neg m n) (n / 64) := by
  have h := and_low (fun k => inv m (64 * (n / 64) + k)) (n % 64) (by omega)
  unfold word
  rw [h]
  refine num_congr fun k hk => ?_
  unfold neg inv
  by_cases h1 : k < n % 64
  · rw [decide_eq_true h1, decide_eq_true (by omega)]
  · rw [decide_eq_false h1, decide_eq_false (by omega)]
theorem word_neg_low (m : Nat → Bool) (n j : Nat) (h : 64 * (j + 1) ≤ n) : word (neg m n) j = word (inv m) j := num_congr fun k hk => by
  unfold neg inv
  rw [decide_eq_true (by omega)]; rfl
theorem wds_neg_whole (m : Nat → Bool) (n : Nat) (h : n % 64 = 0) : wds (inv m) (nw n) = wds (neg m n) (nw n) :=
  wds_congr fun j hj => (word_neg_low m n j (by unfold nw at hj; omega)).symm
theorem wds_neg_cut (m : Nat → Bool) (n : Nat) : (wds (inv m) (nw n)).set (n / 64) (.int .u64 (word (neg m n) (n / 64) : Nat)) = wds (neg m n) (nw n) := by
  apply List.ext_getElem?
  intro i
  rw [List.getElem?_set]
  by_cases hi : i < nw n
  · rw [wds_get _ hi, wds_get _ hi, wds_len]
    by_cases e : n / 64 = i
    · subst e; simp [hi]
    · rw [if_neg e, word_neg_low m n i (by unfold nw at hi; omega)]
  · rw [List.getElem?_eq_none (by rw [wds_len]; omega), List.getElem?_eq_none (by rw [wds_len]; omega), wds_len]
    split
    · rw [if_neg (by omega)]
    · rfl
set_option maxRecDepth 100000 in
set_option maxHeartbeats 2000000 in
theorem not_any (w : World) {S1 g1 cap1 n : Nat} {m : Nat → Bool} (h1 : SetAt w S1 g1 cap1 n m) :
    Calls Tryd.prog 25 #[.pointer (some ⟨S1, 0, none⟩)] w fun e w' => ∃ S g, e = .returned (.pointer (some ⟨S, 0, none⟩)) ∧ w.heap.size ≤ S ∧ w.heap.size ≤ g ∧ SetAt w' S g (nw n) n (neg m n) ∧ Below w.heap.size w w' := by
  obtain ⟨a0, a1, a2⟩ := cells3 h1.hd
  have hsm := h1.small
  have HS1 := hide h1
  have HEM := hide (empty_any w n hsm)
  clear h1
  go_enter Tryd.func25, Tryd.ntmps25
  go_wp2_with fail
  refine HEM.out.mono ?_
  rintro e w1 ⟨S, g, rfl, hS0, hg0, hs, hb⟩
  have HB1 := hide hb
  have HH1 := hide (show Half w1 S g n 0 (wds (below (inv m) (64 * 0)) (nw n)) from by
    show Half w1 S g n 0 (wds (below (inv m) 0) (nw n))
    rw [wds_below_zero]
    have := Half.of hs
    rw [cnt_none] at this
    exact this)
  obtain ⟨c0, c1, c2⟩ := cells3 hs.hd
  clear hs hb a0 a1 a2
  obtain ⟨k, hk⟩ : ∃ k, nw n = k := ⟨_, rfl⟩
  have hkl : k ≤ 16384 := by rw [← hk]; unfold nw; omega
  rw [hk] at c2
  have HK := hide hk
  clear hk
  go_wp2_with fail
  clear c0 c1 c2
  go_loopw [15] (fun i wr => ∃ j : Nat, i = .int .i64 (j : Nat) ∧ j ≤ k ∧ Half wr S g n 0 (wds (below (inv m) (64 * j)) (nw n)) ∧ Below w.heap.size w wr) (fun i _ => k - (intOf i).toNat)
  case atStart => exact ⟨0, rfl, Nat.zero_le _, HH1.out, HB1.out⟩
  case round =>
    obtain ⟨j, rfl, hj, hh, hb⟩ := hrel
    have HH := hide hh
    have HB := hide hb
    have zr := hb.size
    clear hh hb HH1 HB1
    have hs1 := HS1.out.keep (HB.out.mono (Nat.le_refl _))
    obtain ⟨a0, a1, a2⟩ := cells3 hs1.hd
    obtain ⟨c0, c1, c2⟩ := cells3 HH.out.hd
    by_cases hlt : j < k
    · have hji : (j : Int) < (k : Int) := by omega
      have hjn : j < nw n := by rw [HK.out]; exact hlt
      have aw := hs1.cell hjn
      have hcell := HH.out.cell (wds_get (below (inv m) (64 * j)) hjn)
      have hc0 := hcell.1
      have hf0 := hcell.2
      have hx := xor_word m j
      have HW := hide (show Half ((wr.setCell ⟨g, j, none⟩ (.int .u64 (word (inv m) j : Nat))).drew) S g n 0 (wds (below (inv m) (64 * (j + 1))) (nw n)) from by
        rw [← wds_below]
        exact (HH.out.word j _).keep (below_drewN (Below.refl _ _) 1))
      have HB2 := hide (show Below w.heap.size w ((wr.setCell ⟨g, j, none⟩ (.int .u64 (word (inv m) j : Nat))).drew) from below_drewN (below_set HB.out hg0 _) 1)
      have hcap1 := hs1.cap
      rw [HK.out] at a2 c2 hcap1
      clear hs1 hcell
      go_wp2_with fail
      refine wp_region_still_tail 14 (by kernel_rfl) (by kernel_rfl) ?_
      simp only [List.take_succ_cons, List.take_zero, List.drop_succ_cons, List.drop_zero]
      repeat still_step
      refine wpStill_nil ?_
      go_wp2_with fail
      exact ⟨⟨j + 1, vi (by omega), by omega, HW.out, HB2.out⟩, by simp only [intOf]; omega⟩
    · obtain rfl : k = j := by omega
      have HFULL := hide (show Half wr S g n 0 (wds (inv m) (nw n)) from by
        have h := HH.out
        rw [← HK.out] at h
        rw [wds_below_all] at h
        exact h)
      have hcn := cnt_le m n
      have hng := cnt_neg m n
      have HNG := hide (show ((cnt (neg m n) n : Nat) : Int) = (n : Int) - (cnt m n : Int) by omega)
      rw [HK.out] at a2 c2
      clear hs1 hng
      by_cases hr : n % 64 = 0
      · have hri : (n : Int) % 64 = 0 := by omega
        have hcnt : IntKind.i64.wrap ((n : Int) - (cnt m n : Int)) = ((cnt (neg m n) n : Nat) : Int) := by have := HNG.out; rw [IntKind.wrap_i64]; omega
        have hfc := free_at HFULL.out.hd 1
        have HFIN := hide (show SetAt ((wr.setCell ⟨S, 1, none⟩ (.int .i64 (cnt (neg m n) n : Nat))).drew) S g (nw n) n (neg m n) from
          (((by rw [← wds_neg_whole m n hr]; exact HFULL.out : Half wr S g n 0 (wds (neg m n) (nw n))).count _).keep (below_drewN (Below.refl _ _) 1)).set hsm (neg_off m n))
        have HBF := hide (show Below w.heap.size w ((wr.setCell ⟨S, 1, none⟩ (.int .i64 (cnt (neg m n) n : Nat))).drew) from below_drewN (below_set HB.out hS0 _) 1)
        clear hr
        go_wp2_with fail
        refine wp_region_still_tail 12 (by kernel_rfl) (by kernel_rfl) ?_
        simp only [List.take_succ_cons, List.take_zero, List.drop_succ_cons, List.drop_zero]
        repeat still_step
        refine wpStill_nil ?_
        go_wp2_with fail
        go_ret
        exact ⟨S, g, rfl, hS0, hg0, HFIN.out, HBF.out⟩
      · have hri : ((n : Int) % 64 == 0) = false := by simp; omega
        obtain ⟨r, hrr⟩ : ∃ r, n % 64 = r := ⟨_, rfl⟩
        obtain ⟨q, hqq⟩ : ∃ q, n / 64 = q := ⟨_, rfl⟩
        have hkq : k = q + 1 := by rw [← HK.out]; unfold nw; omega
        have hr64 : r < 64 := by omega
        have hqn : q < nw n := by rw [HK.out]; omega
        have hcell := HFULL.out.cell (wds_get (inv m) hqn)
        have hc0 := hcell.1
        have hf0 := hcell.2
        have hmask : bits .and .u64 (word (inv m) q : Int) (IntKind.u64.wrap (IntKind.u64.wrap (2 ^ r) - 1)) = (word (neg m n) q : Int) := by
          have h := word_cut m n
          rw [hrr, hqq] at h
          rw [← h]
          exact low_mask _ _ (word_lt' _ _) hr64
        have hrem : (n : Int).tmod 64 = (r : Int) := by rw [Int.tmod_eq_emod_of_nonneg (by omega)]; omega
        have hrem2 : (n : Int) % 64 = (r : Int) := by omega
        have hri2 : ((r : Int) == 0) = false := by simp; omega
        have hr0 : ¬ r = 0 := by omega
        have hkw : IntKind.i64.wrap ((k : Int) - 1) = (q : Int) := by rw [IntKind.wrap_i64]; omega
        have hkw2 : IntKind.i64.wrap (q : Int) = (q : Int) := by rw [IntKind.wrap_i64]; omega
        have hkw3 : (k : Int) - 1 = (q : Int) := by omega
        have HW := hide (show Half ((wr.setCell ⟨g, q, none⟩ (.int .u64 (word (neg m n) q : Nat))).drew) S g n 0 (wds (neg m n) (nw n)) from by
          have h := wds_neg_cut m n
          rw [hqq] at h
          rw [← h]
          exact (HFULL.out.word q _).keep (below_drewN (Below.refl _ _) 1))
        have HB2 := hide (show Below w.heap.size w ((wr.setCell ⟨g, q, none⟩ (.int .u64 (word (neg m n) q : Nat))).drew) from below_drewN (below_set HB.out hg0 _) 1)
        have hqk : (q : Int) < (k : Int) := by omega
        have hk1 : 1 ≤ k := by omega
        clear hr hri hrr hqq hkq hcell
        go_wp2_with fail
        refine wp_region_still_tail 21 (by kernel_rfl) (by kernel_rfl) ?_
        simp only [List.take_succ_cons, List.take_zero, List.drop_succ_cons, List.drop_zero]
        repeat still_step
        refine wpStill_nil ?_
        go_upto_region 9 with (fail)
        generalize hX : (wr.setCell ⟨g, q, none⟩ (.int .u64 (word (neg m n) q : Nat))).drew = W
        rw [hX] at HW HB2
        have hs2 := HS1.out.keep (HB2.out.mono (Nat.le_refl _))
        clear hX a0 a1 a2 c0 c1 c2 hc0 hf0 hmask hrem hrem2 hri2 hr0 hkw hkw2 hkw3
        obtain ⟨a0, a1, a2⟩ := cells3 hs2.hd
        obtain ⟨c0, c1, c2⟩ := cells3 HW.out.hd
        have hcnt : IntKind.i64.wrap ((n : Int) - (cnt m n : Int)) = ((cnt (neg m n) n : Nat) : Int) := by have := HNG.out; rw [IntKind.wrap_i64]; omega
        have hfc := free_at HW.out.hd 1
        have HFIN := hide (show SetAt ((W.setCell ⟨S, 1, none⟩ (.int .i64 (cnt (neg m n) n : Nat))).drew) S g (nw n) n (neg m n) from
          ((HW.out.count _).keep (below_drewN (Below.refl _ _) 1)).set hsm (neg_off m n))
        have HBF := hide (show Below w.heap.size w ((W.setCell ⟨S, 1, none⟩ (.int .i64 (cnt (neg m n) n : Nat))).drew) from below_drewN (below_set HB2.out hS0 _) 1)
        clear hs2
        refine wp_region_still_tail 12 (by kernel_rfl) (by kernel_rfl) ?_
        simp only [List.take_succ_cons, List.take_zero, List.drop_succ_cons, List.drop_zero]
        repeat still_step
        refine wpStill_nil ?_
        go_wp2_with fail
        go_ret
        exact ⟨S, g, rfl, hS0, hg0, HFIN.out, HBF.out⟩
end Go.Proofs.YtmkbbekeimnajaaDoor
