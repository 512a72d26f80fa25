/- texts of this proof, one behind the other: Nt Alg Cl WOneForm Rf Ra Al -/
import Derived.Test.YtmkbbekeimnajaaDoorMMemory0
import Derived.Test.YtmkbbekeimnajaaDoorMMemory1
import Derived.Test.YtmkbbekeimnajaaDoorMMemory2
import Derived.Test.YtmkbbekeimnajaaDoorMMemory3
import Derived.Test.YtmkbbekeimnajaaDoorMMemory4
import Derived.Test.YtmkbbekeimnajaaDoorMMemory5
import Derived.Test.YtmkbbekeimnajaaDoorMMemory6
import Derived.Test.YtmkbbekeimnajaaDoorMMemory7
import Derived.Test.YtmkbbekeimnajaaDoorMMemory8
import Derived.Test.YtmkbbekeimnajaaDoorMMemory9
import Derived.Test.YtmkbbekeimnajaaDoorMMemory10
import Derived.Test.YtmkbbekeimnajaaDoorMMemory11
import Derived.Deep.RegionLaw
import Derived.RangeFuncNested
import Derived.RangeFuncBound
import Derived.RangeFuncBox
import Derived.RangeFuncLeaves
/-! Nt: the complement -/
namespace Go.Proofs.YtmkbbekeimnajaaDoor
open Go.RowKit Ds
def neg (m : Nat → Bool) (n : Nat) : Nat → Bool := fun i => decide (i < n) && !m i
theorem neg_off (m : Nat → Bool) (n : Nat) : ∀ i, n ≤ i → neg m n i = false := fun i hi => by unfold neg; rw [decide_eq_false (by omega)]; rfl
theorem cnt_neg (m : Nat → Bool) (n : Nat) : cnt (neg m n) n = n - cnt m n := by
  rw [← cnt_inv m n]
  exact cnt_congr fun i hi => by unfold neg inv; rw [decide_eq_true hi]; rfl
theorem xor_word (m : Nat → Bool) (j : Nat) : bits .xor .u64 (if IntKind.u64.signed = true then -1 else IntKind.u64.max) (word m j : Int) = (word (inv m) j : Int) := by
  have hw := word_lt' (inv m) j
  have hx : (BitVec.ofNat 64 18446744073709551615 ^^^ BitVec.ofNat 64 (word m j)).toNat = word (inv m) j := by
    refine num_ext (BitVec.isLt _) fun k hk => ?_
    have h1 : (BitVec.ofNat 64 18446744073709551615).getLsbD k = true := by
      have : (BitVec.ofNat 64 18446744073709551615) = BitVec.allOnes 64 := by decide
      rw [this, BitVec.getLsbD_allOnes]; simp [hk]
    rw [BitVec.testBit_toNat, BitVec.getLsbD_xor, h1, BitVec.getLsbD_ofNat, word_bit]
    unfold inv
    simp [hk]
  show IntKind.u64.wrap ((BitVec.ofInt 64 ((18446744073709551615 : Nat) : Int) ^^^ BitVec.ofInt 64 ((word m j : Nat) : Int)).toNat : Int) = _
  rw [BitVec.ofInt_natCast, BitVec.ofInt_natCast, hx, IntKind.wrap_u64]
  omega
theorem word_cut (m : Nat → Bool) (n : Nat) : word (inv m) (n / 64) &&& (2 ^ (n % 64) - 1) = word (neg m n) (n / 64) := by
  have h := and_low (fun k => inv m (64 * (n / 64) + k)) (n % 64) (by omega)
  unfold word
  rw [h]
  refine num_congr fun k hk => ?_
  unfold neg inv
  by_cases h1 : k < n % 64
  · rw [decide_eq_true h1, decide_eq_true (by omega)]
  · rw [decide_eq_false h1, decide_eq_false (by omega)]
theorem word_neg_low (m : Nat → Bool) (n j : Nat) (h : 64 * (j + 1) ≤ n) : word (neg m n) j = word (inv m) j := num_congr fun k hk => by
  unfold neg inv
  rw [decide_eq_true (by omega)]; rfl
theorem wds_neg_whole (m : Nat → Bool) (n : Nat) (h : n % 64 = 0) : wds (inv m) (nw n) = wds (neg m n) (nw n) :=
  wds_congr fun j hj => (word_neg_low m n j (by unfold nw at hj; omega)).symm
theorem wds_neg_cut (m : Nat → Bool) (n : Nat) : (wds (inv m) (nw n)).set (n / 64) (.int .u64 (word (neg m n) (n / 64) : Nat)) = wds (neg m n) (nw n) := by
  apply List.ext_getElem?
  intro i
  rw [List.getElem?_set]
  by_cases hi : i < nw n
  · rw [wds_get _ hi, wds_get _ hi, wds_len]
    by_cases e : n / 64 = i
    · subst e; simp [hi]
    · rw [if_neg e, word_neg_low m n i (by unfold nw at hi; omega)]
  · rw [List.getElem?_eq_none (by rw [wds_len]; omega), List.getElem?_eq_none (by rw [wds_len]; omega), wds_len]
    split
    · rw [if_neg (by omega)]
    · rfl
set_option maxRecDepth 100000 in
set_option maxHeartbeats 2000000 in
theorem not_any (w : World) {S1 g1 cap1 n : Nat} {m : Nat → Bool} (h1 : SetAt w S1 g1 cap1 n m) :
    Calls Tryd.prog 25 #[.pointer (some ⟨S1, 0, none⟩)] w fun e w' => ∃ S g, e = .returned (.pointer (some ⟨S, 0, none⟩)) ∧ w.heap.size ≤ S ∧ w.heap.size ≤ g ∧ SetAt w' S g (nw n) n (neg m n) ∧ Below w.heap.size w w' := by
  obtain ⟨a0, a1, a2⟩ := cells3 h1.hd
  have hsm := h1.small
  have HS1 := hide h1
  have HEM := hide (empty_any w n hsm)
  clear h1
  go_enter Tryd.func25, Tryd.ntmps25
  go_wp2_with fail
  refine HEM.out.mono ?_
  rintro e w1 ⟨S, g, rfl, hS0, hg0, hs, hb⟩
  have HB1 := hide hb
  have HH1 := hide (show Half w1 S g n 0 (wds (below (inv m) (64 * 0)) (nw n)) from by
    show Half w1 S g n 0 (wds (below (inv m) 0) (nw n))
    rw [wds_below_zero]
    have := Half.of hs
    rw [cnt_none] at this
    exact this)
  obtain ⟨c0, c1, c2⟩ := cells3 hs.hd
  clear hs hb a0 a1 a2
  obtain ⟨k, hk⟩ : ∃ k, nw n = k := ⟨_, rfl⟩
  have hkl : k ≤ 16384 := by rw [← hk]; unfold nw; omega
  rw [hk] at c2
  have HK := hide hk
  clear hk
  go_wp2_with fail
  clear c0 c1 c2
  go_loopw [15] (fun i wr => ∃ j : Nat, i = .int .i64 (j : Nat) ∧ j ≤ k ∧ Half wr S g n 0 (wds (below (inv m) (64 * j)) (nw n)) ∧ Below w.heap.size w wr) (fun i _ => k - (intOf i).toNat)
  case atStart => exact ⟨0, rfl, Nat.zero_le _, HH1.out, HB1.out⟩
  case round =>
    obtain ⟨j, rfl, hj, hh, hb⟩ := hrel
    have HH := hide hh
    have HB := hide hb
    have zr := hb.size
    clear hh hb HH1 HB1
    have hs1 := HS1.out.keep (HB.out.mono (Nat.le_refl _))
    obtain ⟨a0, a1, a2⟩ := cells3 hs1.hd
    obtain ⟨c0, c1, c2⟩ := cells3 HH.out.hd
    by_cases hlt : j < k
    · have hji : (j : Int) < (k : Int) := by omega
      have hjn : j < nw n := by rw [HK.out]; exact hlt
      have aw := hs1.cell hjn
      have hcell := HH.out.cell (wds_get (below (inv m) (64 * j)) hjn)
      have hc0 := hcell.1
      have hf0 := hcell.2
      have hx := xor_word m j
      have HW := hide (show Half ((wr.setCell ⟨g, j, none⟩ (.int .u64 (word (inv m) j : Nat))).drew) S g n 0 (wds (below (inv m) (64 * (j + 1))) (nw n)) from by
        rw [← wds_below]
        exact (HH.out.word j _).keep (below_drewN (Below.refl _ _) 1))
      have HB2 := hide (show Below w.heap.size w ((wr.setCell ⟨g, j, none⟩ (.int .u64 (word (inv m) j : Nat))).drew) from below_drewN (below_set HB.out hg0 _) 1)
      have hcap1 := hs1.cap
      rw [HK.out] at a2 c2 hcap1
      clear hs1 hcell
      go_wp2_with fail
      refine wp_region_still_tail 14 (by kernel_rfl) (by kernel_rfl) ?_
      simp only [List.take_succ_cons, List.take_zero, List.drop_succ_cons, List.drop_zero]
      repeat still_step
      refine wpStill_nil ?_
      go_wp2_with fail
      exact ⟨⟨j + 1, vi (by omega), by omega, HW.out, HB2.out⟩, by simp only [intOf]; omega⟩
    · obtain rfl : k = j := by omega
      have HFULL := hide (show Half wr S g n 0 (wds (inv m) (nw n)) from by
        have h := HH.out
        rw [← HK.out] at h
        rw [wds_below_all] at h
        exact h)
      have hcn := cnt_le m n
      have hng := cnt_neg m n
      have HNG := hide (show ((cnt (neg m n) n : Nat) : Int) = (n : Int) - (cnt m n : Int) by omega)
      rw [HK.out] at a2 c2
      clear hs1 hng
      by_cases hr : n % 64 = 0
      · have hri : (n : Int) % 64 = 0 := by omega
        have hcnt : IntKind.i64.wrap ((n : Int) - (cnt m n : Int)) = ((cnt (neg m n) n : Nat) : Int) := by have := HNG.out; rw [IntKind.wrap_i64]; omega
        have hfc := free_at HFULL.out.hd 1
        have HFIN := hide (show SetAt ((wr.setCell ⟨S, 1, none⟩ (.int .i64 (cnt (neg m n) n : Nat))).drew) S g (nw n) n (neg m n) from
          (((by rw [← wds_neg_whole m n hr]; exact HFULL.out : Half wr S g n 0 (wds (neg m n) (nw n))).count _).keep (below_drewN (Below.refl _ _) 1)).set hsm (neg_off m n))
        have HBF := hide (show Below w.heap.size w ((wr.setCell ⟨S, 1, none⟩ (.int .i64 (cnt (neg m n) n : Nat))).drew) from below_drewN (below_set HB.out hS0 _) 1)
        clear hr
        go_wp2_with fail
        refine wp_region_still_tail 12 (by kernel_rfl) (by kernel_rfl) ?_
        simp only [List.take_succ_cons, List.take_zero, List.drop_succ_cons, List.drop_zero]
        repeat still_step
        refine wpStill_nil ?_
        go_wp2_with fail
        go_ret
        exact ⟨S, g, rfl, hS0, hg0, HFIN.out, HBF.out⟩
      · have hri : ((n : Int) % 64 == 0) = false := by simp; omega
        obtain ⟨r, hrr⟩ : ∃ r, n % 64 = r := ⟨_, rfl⟩
        obtain ⟨q, hqq⟩ : ∃ q, n / 64 = q := ⟨_, rfl⟩
        have hkq : k = q + 1 := by rw [← HK.out]; unfold nw; omega
        have hr64 : r < 64 := by omega
        have hqn : q < nw n := by rw [HK.out]; omega
        have hcell := HFULL.out.cell (wds_get (inv m) hqn)
        have hc0 := hcell.1
        have hf0 := hcell.2
        have hmask : bits .and .u64 (word (inv m) q : Int) (IntKind.u64.wrap (IntKind.u64.wrap (2 ^ r) - 1)) = (word (neg m n) q : Int) := by
          have h := word_cut m n
          rw [hrr, hqq] at h
          rw [← h]
          exact low_mask _ _ (word_lt' _ _) hr64
        have hrem : (n : Int).tmod 64 = (r : Int) := by rw [Int.tmod_eq_emod_of_nonneg (by omega)]; omega
        have hrem2 : (n : Int) % 64 = (r : Int) := by omega
        have hri2 : ((r : Int) == 0) = false := by simp; omega
        have hr0 : ¬ r = 0 := by omega
        have hkw : IntKind.i64.wrap ((k : Int) - 1) = (q : Int) := by rw [IntKind.wrap_i64]; omega
        have hkw2 : IntKind.i64.wrap (q : Int) = (q : Int) := by rw [IntKind.wrap_i64]; omega
        have hkw3 : (k : Int) - 1 = (q : Int) := by omega
        have HW := hide (show Half ((wr.setCell ⟨g, q, none⟩ (.int .u64 (word (neg m n) q : Nat))).drew) S g n 0 (wds (neg m n) (nw n)) from by
          have h := wds_neg_cut m n
          rw [hqq] at h
          rw [← h]
          exact (HFULL.out.word q _).keep (below_drewN (Below.refl _ _) 1))
        have HB2 := hide (show Below w.heap.size w ((wr.setCell ⟨g, q, none⟩ (.int .u64 (word (neg m n) q : Nat))).drew) from below_drewN (below_set HB.out hg0 _) 1)
        have hqk : (q : Int) < (k : Int) := by omega
        have hk1 : 1 ≤ k := by omega
        clear hr hri hrr hqq hkq hcell
        go_wp2_with fail
        refine wp_region_still_tail 21 (by kernel_rfl) (by kernel_rfl) ?_
        simp only [List.take_succ_cons, List.take_zero, List.drop_succ_cons, List.drop_zero]
        repeat still_step
        refine wpStill_nil ?_
        go_upto_region 9 with (fail)
        generalize hX : (wr.setCell ⟨g, q, none⟩ (.int .u64 (word (neg m n) q : Nat))).drew = W
        rw [hX] at HW HB2
        have hs2 := HS1.out.keep (HB2.out.mono (Nat.le_refl _))
        clear hX a0 a1 a2 c0 c1 c2 hc0 hf0 hmask hrem hrem2 hri2 hr0 hkw hkw2 hkw3
        obtain ⟨a0, a1, a2⟩ := cells3 hs2.hd
        obtain ⟨c0, c1, c2⟩ := cells3 HW.out.hd
        have hcnt : IntKind.i64.wrap ((n : Int) - (cnt m n : Int)) = ((cnt (neg m n) n : Nat) : Int) := by have := HNG.out; rw [IntKind.wrap_i64]; omega
        have hfc := free_at HW.out.hd 1
        have HFIN := hide (show SetAt ((W.setCell ⟨S, 1, none⟩ (.int .i64 (cnt (neg m n) n : Nat))).drew) S g (nw n) n (neg m n) from
          ((HW.out.count _).keep (below_drewN (Below.refl _ _) 1)).set hsm (neg_off m n))
        have HBF := hide (show Below w.heap.size w ((W.setCell ⟨S, 1, none⟩ (.int .i64 (cnt (neg m n) n : Nat))).drew) from below_drewN (below_set HB2.out hS0 _) 1)
        clear hs2
        refine wp_region_still_tail 12 (by kernel_rfl) (by kernel_rfl) ?_
        simp only [List.take_succ_cons, List.take_zero, List.drop_succ_cons, List.drop_zero]
        repeat still_step
        refine wpStill_nil ?_
        go_wp2_with fail
        go_ret
        exact ⟨S, g, rfl, hS0, hg0, HFIN.out, HBF.out⟩
end Go.Proofs.YtmkbbekeimnajaaDoor

/-! Alg: plain: the rules of the algebra -/
namespace Go.Proofs.YtmkbbekeimnajaaDoor
open Go.RowKit Ds
def mAnd (a b : Nat → Bool) : Nat → Bool := fun i => a i && b i
def mOr (a b : Nat → Bool) : Nat → Bool := fun i => a i || b i
def mMinus (a b : Nat → Bool) : Nat → Bool := fun i => a i && !b i
section
variable {a b : Nat → Bool} {N : Nat}
theorem alg_nn (ha : ∀ i, N ≤ i → a i = false) : neg (neg a N) N = a := by
  funext i
  unfold neg
  by_cases h : i < N
  · simp [h]
  · rw [decide_eq_false h, ha i (by omega)]; rfl
theorem alg_and : neg (mAnd a b) N = mOr (neg a N) (neg b N) := by
  funext i
  unfold neg mAnd mOr
  dsimp only
  cases decide (i < N) <;> cases a i <;> cases b i <;> rfl
theorem alg_or : neg (mOr a b) N = mAnd (neg a N) (neg b N) := by
  funext i
  unfold neg mAnd mOr
  dsimp only
  cases decide (i < N) <;> cases a i <;> cases b i <;> rfl
theorem alg_minus (ha : ∀ i, N ≤ i → a i = false) : mMinus a b = mAnd a (neg b N) := by
  funext i
  unfold neg mAnd mMinus
  dsimp only
  by_cases h : i < N
  · rw [decide_eq_true h]; cases a i <;> cases b i <;> rfl
  · rw [ha i (by omega)]; rfl
theorem alg_andc : mAnd b a = mAnd a b := by funext i; unfold mAnd; cases a i <;> cases b i <;> rfl
theorem alg_orc : mOr b a = mOr a b := by funext i; unfold mOr; cases a i <;> cases b i <;> rfl
theorem alg_split : mOr (mMinus a b) (mAnd a b) = a := by funext i; unfold mOr mMinus mAnd; cases a i <;> cases b i <;> rfl
theorem alg_self : mAnd a a = a := by funext i; unfold mAnd; cases a i <;> rfl
theorem alg_none : cnt (mAnd a (neg a N)) N = 0 := by
  rw [← cnt_none N]
  exact cnt_congr fun i hi => by unfold mAnd neg; cases decide (i < N) <;> cases a i <;> rfl
end
theorem alg_sum (a b : Nat → Bool) : ∀ N, cnt (mAnd a b) N + cnt (mOr a b) N = cnt a N + cnt b N
  | 0 => rfl
  | N + 1 => by
    have ih := alg_sum a b N
    rw [cnt_succ, cnt_succ, cnt_succ, cnt_succ]
    have e1 : mAnd a b N = (a N && b N) := rfl
    have e2 : mOr a b N = (a N || b N) := rfl
    rw [e1, e2]
    cases a N <;> cases b N <;> simp <;> omega
theorem alike_eq (w : World) {S1 g1 cap1 S2 g2 cap2 n : Nat} {m1 m2 : Nat → Bool} (h1 : SetAt w S1 g1 cap1 n m1) (h2 : SetAt w S2 g2 cap2 n m2) (hm : m1 = m2) :
    Calls Tryd.prog 27 #[.pointer (some ⟨S1, 0, none⟩), .pointer (some ⟨S2, 0, none⟩)] w fun e w' => e = .returned (.bool true) ∧ Below w.heap.size w w' := by
  subst hm
  exact alike_same w h1 h2
theorem bytes_same (w : World) (v1 v2 : Value) (xs : List Nat) (h1 : Src w v1 xs) (h2 : Src w v2 xs) :
    Calls Tryd.prog 28 #[v1, v2] w fun e w' => e = .returned (.bool true) ∧ w = w' := (bytes_equal w v1 v2 xs xs h1 h2).mono fun e w' ⟨he, hw⟩ => ⟨by rw [he]; simp, hw⟩
end Go.Proofs.YtmkbbekeimnajaaDoor

/-! Cl: a clone -/
namespace Go.Proofs.YtmkbbekeimnajaaDoor
open Go.RowKit Ds
theorem wds_one (m : Nat → Bool) (k : Nat) : ∀ u ∈ wds m k, u.oneCell' = true := by
  intro u hu
  simp only [wds, List.mem_map] at hu
  obtain ⟨n, _, rfl⟩ := hu
  rfl
theorem set_srcc {w : World} {S g cap n : Nat} {m : Nat → Bool} (h : SetAt w S g cap n m) : SrcC w (.slice (some ⟨g, 0, none⟩) (nw n) cap) (nw n) 1 (wds m (nw n)) := by
  refine ⟨by simp [wds], .inr ⟨⟨g, 0, none⟩, cap, rfl, fun j u hj => ?_⟩⟩
  have hjn : j < nw n := by
    have := get_lt' hj
    simpa [wds] using this
  rw [Addr.add_mid, Nat.zero_add, h.cell hjn, ← hj]
  simp [wds, hjn]
set_option maxRecDepth 100000 in
set_option maxHeartbeats 2000000 in
theorem clone_any (w : World) {S g cap n : Nat} {m : Nat → Bool} (h : SetAt w S g cap n m) :
    Calls Tryd.prog 34 #[.pointer (some ⟨S, 0, none⟩)] w fun e w' => ∃ S2 g2 cap2, e = .returned (.pointer (some ⟨S2, 0, none⟩)) ∧ w.heap.size ≤ S2 ∧ w.heap.size ≤ g2 ∧ SetAt w' S2 g2 cap2 n m ∧ Below w.heap.size w w' := by
  obtain ⟨i0, hi, hz0, hz1, hz2⟩ := info_parts info83
  have hsm := h.small
  have hnw : nw n ≤ 16384 := by unfold nw; omega
  have HS := hide h
  clear h
  have HS1 := hide (show SetAt w.drew S g cap n m from HS.out.keep ((Below.refl w.heap.size w).drew))
  have hS1 : S < w.drew.heap.size := heap_lt HS1.out.hd
  have hb2 : Below w.heap.size w (w.alloc (.cells #[] 83)).drew := ((Below.refl w.heap.size w).alloc (Nat.le_refl _) _).drew
  have HS2 := hide (show SetAt (w.alloc (.cells #[] 83)).drew S g cap n m from HS.out.keep hb2)
  have hown : (w.alloc (.cells #[] 83)).drew.ownsRow w.heap.size 83 1 (.slice (some ⟨w.heap.size, 0, none⟩) 0 0) 0 [] :=
    ⟨rfl, .inr ⟨_, 0, #[], rfl, Nat.le_refl _, heap_new (w := w) rfl (.cells #[] 83), Nat.le_refl _, by unfold maxLen; omega, rfl, rfl⟩⟩
  obtain ⟨v6, w6, k1, k2, k3, k4⟩ := run_row (w.alloc (.cells #[] 83)).drew w.heap.size 80 80 83 i0 _ 1 8 Tryd.underlying80 hi hz0 hz1 hz2 rfl (by decide) _ _ 0 (nw n) [] (wds m (nw n)) hown (set_srcc HS2.out) (wds_one _ _) (by unfold maxLen; omega) (by omega) (by show w.heap.size ≤ (w.alloc _).heap.size; rw [World.size_alloc]; exact Nat.le_succ _)
  rw [Nat.zero_add, List.nil_append] at k2
  obtain ⟨g2, cap2, cur, hv, hg2, hcells, hl, hm, hsz, htk⟩ : ∃ g2 cap2 cur, v6 = .slice (some ⟨g2, 0, none⟩) (nw n) cap2 ∧ w.heap.size ≤ g2 ∧ w6.heap[g2]? = some (.cells cur 83 (0, 0)) ∧ nw n ≤ cap2 ∧ cap2 ≤ maxLen ∧ cur.size = cap2 * 1 ∧ cur.toList.take (nw n * 1) = wds m (nw n) := by
    rcases k2.2 with ⟨rfl, _⟩ | h
    · rcases k4 with h | h <;> simp [Value.ownBlock] at h
    · exact h
  subst hv
  rw [Nat.mul_one] at hsz htk
  have hb6 : Below w.heap.size w w6 := hb2.grown k3 (by show w.heap.size ≤ (w.alloc _).heap.size; rw [World.size_alloc]; exact Nat.le_succ _) (fun j hj => (hown.lt j hj).1)
  have HS6 := hide (HS.out.keep hb6)
  obtain ⟨c10, c11, c12⟩ := cells3 HS1.out.hd
  obtain ⟨c20, c21, c22⟩ := cells3 HS2.out.hd
  obtain ⟨c60, c61, c62⟩ := cells3 HS6.out.hd
  have HR6 := hide k1
  have HFS := hide (show SetAt (w6.alloc (.cells #[.int .i64 (n : Nat), .int .i64 (cnt m n : Nat), .slice (some ⟨g2, 0, none⟩) (nw n) cap2] 82)) w6.heap.size g2 cap2 n m from
    ⟨heap_new rfl _, ⟨cur, heap_old hcells _, hsz, htk⟩, ⟨hl, hm⟩, HS.out.off, HS.out.small⟩)
  have hs6 := hb6.size
  have HFB := hide (hb6.alloc hs6 (.cells #[.int .i64 (n : Nat), .int .i64 (cnt m n : Nat), .slice (some ⟨g2, 0, none⟩) (nw n) cap2] 82))
  clear k1 k2 k3 k4 hb2 hb6 hown HS HS1 HS2 HS6 hcells hl hm hsz htk hS1
  go_enter Tryd.func34, Tryd.ntmps34
  go_wp2_with fail
  go_region_law (refine step_run 80 _ w6 _ _ _ rfl (.tmp 11) (.tmp 15) rfl rfl rfl HR6.out ?_)
  all_goals
    go_wp2_with fail
    go_ret
    exact ⟨w6.heap.size, g2, cap2, rfl, hs6, hg2, HFS.out, HFB.out⟩
end Go.Proofs.YtmkbbekeimnajaaDoor

/-! WOneForm: the walk of DocsetOneForm -/
namespace Go.Proofs.YtmkbbekeimnajaaDoor
open Go.RowKit Ds
theorem SetAt.apart {w w' : World} {S g cap n S2 g2 : Nat} {m : Nat → Bool} (h : SetAt w S g cap n m) (hf : Foot w w' (fun k => k = S2 ∨ k = g2)) (a : S ≠ S2) (b : S ≠ g2) (c : g ≠ S2) (d : g ≠ g2) : SetAt w' S g cap n m := by
  obtain ⟨cur, h1, h2, h3⟩ := h.ws
  exact ⟨(hf.block _ (heap_lt h.hd) (fun e => e.elim a b)).trans h.hd, ⟨cur, (hf.block _ (heap_lt h1) (fun e => e.elim c d)).trans h1, h2, h3⟩, h.cap, h.off, h.small⟩
theorem encS_inj {n : Nat} {m k : Nat → Bool} (h : encS n m = encS n k) : ∀ i, i < n → m i = k i := by
  have h1 : body n m (nb n) ++ [] = body n k (nb n) ++ [] := by
    have := List.append_cancel_left h
    rw [this]
  have h2 := (body_unique n m k (nb n) [] [] (Nat.le_refl _) h1).1
  exact fun i hi => h2 i hi (by unfold nb; omega)
theorem enc_ne {n i : Nat} {m : Nat → Bool} (hi : i < n) : encS n (put m i (!m i)) ≠ encS n m := fun e => by
  have := encS_inj e i hi
  unfold put at this
  rw [if_pos rfl] at this
  cases h : m i <;> rw [h] at this <;> cases this
theorem put_ne {i : Nat} {m : Nat → Bool} : m ≠ put m i (!m i) := fun e => by
  have := congrFun e i
  unfold put at this
  rw [if_pos rfl] at this
  cases h : m i <;> rw [h] at this <;> cases this
theorem bytes_diff (w : World) (v1 v2 : Value) (xs ys : List Nat) (h1 : Src w v1 xs) (h2 : Src w v2 ys) (hne : xs ≠ ys) :
    Calls Tryd.prog 28 #[v1, v2] w fun e w' => e = .returned (.bool false) ∧ w = w' := (bytes_equal w v1 v2 xs ys h1 h2).mono fun e w' ⟨he, hw⟩ => ⟨by rw [he, decide_eq_false hne], hw⟩
set_option maxRecDepth 100000 in
set_option maxHeartbeats 8000000 in
theorem oneform_walk (w : World) (T : DeBr w) (E : Nat → Addr) (hE : Errs w E allErrs) (hg : 25 ≤ w.heap.size) (ao : Option Addr) (k0 : Nat) (bs : List Nat) (h1 : Src w (.slice ao bs.length k0) bs) (hl1 : bs.length ≤ 140737488351232) (i : Int) :
    Calls Tryd.prog 7 #[.slice ao bs.length k0, .int .i64 i] w fun e w' => e = .returned (.bool true) ∧ Below w.heap.size w w' := by
  have HT := hide T
  have HE := hide hE
  have H1 := hide h1
  clear T hE h1
  go_enter Tryd.func7, Tryd.ntmps7
  go_wp2_with fail
  refine (fixed_any w E HE.out HT.out hg).mono ?_
  rintro e w1 ⟨rfl, hb1⟩
  have HB1 := hide hb1
  have z1 := hb1.size
  have HE1 := hide (HE.out.below hb1 (Nat.le_refl _) (ids_lt hg))
  have HS1 := hide (src_keep H1.out hb1)
  clear hb1
  go_wp2_with fail
  refine (decode_any w1 _ bs HS1.out hl1 E HE1.out (by omega)).mono ?_
  rintro e w2 ⟨hd, hb2⟩
  have HB2 := hide (HB1.out.trans (hb2.mono z1))
  have z2 := HB2.out.size
  clear hb2
  unfold DecOut at hd
  rcases hd with ⟨n, m, S, g, hn, hbs, rfl, hS, hgg, hs⟩ | ⟨hno, rfl⟩
  · have HS := hide hs
    have HBS := hide hbs
    have HP2 := hide (src_keep H1.out HB2.out)
    clear hs hbs
    go_wp2_with fail
    refine (encode_set w2 HS.out).mono ?_
    rintro e w3 ⟨q3, _, rfl, hh3, hb3⟩
    have HB3 := hide (HB2.out.trans (hb3.mono z2))
    have HS3 := hide (HS.out.keep hb3)
    have HQ3 := hide (src_encS hn hh3)
    have HP3 := hide (src_keep H1.out HB3.out)
    have z3 := HB3.out.size
    clear hh3 hb3 HS HP2
    have HY := hide (bytes_same w3 _ _ _ HQ3.out (by rw [← HBS.out]; exact HP3.out))
    go_wp2_with fail
    refine HY.out.mono ?_
    rintro e wz ⟨rfl, rfl⟩
    go_wp2_with fail
    refine (clone_any w3 HS3.out).mono ?_
    rintro e w4 ⟨S2, g2, cap2, rfl, hS2, hg2, hs4, hb4⟩
    have HB4 := hide (HB3.out.trans (hb4.mono z3))
    have HS4 := hide (HS3.out.keep hb4)
    have HT4 := hide hs4
    have z4 := HB4.out.size
    have z34 := hb4.size
    have hS3 := heap_lt HS3.out.hd
    have hg3 : g < w3.heap.size := by obtain ⟨cur, h, _⟩ := HS3.out.ws; exact heap_lt h
    have hSS : S ≠ S2 := by omega
    have hSg : S ≠ g2 := by omega
    have hgS : g ≠ S2 := by omega
    have hggg : g ≠ g2 := by omega
    have HLN := hide (len_any w4 HS4.out)
    clear hs4 hb4 HS3 HQ3 HP3 HY
    by_cases hi0 : i < 0
    · go_wp2_with fail
      go_ret
      exact ⟨rfl, HB4.out⟩
    by_cases hin : (n : Int) ≤ i
    · go_wp2_with fail
      refine HLN.out.mono ?_
      rintro e wz ⟨rfl, rfl⟩
      go_wp2_with fail
      go_ret
      exact ⟨rfl, HB4.out⟩
    obtain ⟨k, rfl⟩ := Int.eq_ofNat_of_zero_le (show 0 ≤ i by omega)
    have hkn : k < n := by omega
    have HHS := hide (has_in w4 HT4.out k hkn)
    have MUT : ∀ (w5 : World), SetAt w5 S2 g2 cap2 n (put m k (!m k)) → Foot w4 w5 (fun k => k = S2 ∨ k = g2) → Below w.heap.size w w5 ∧ SetAt w5 S g (nw n) n m := fun w5 h5 hf5 =>
      ⟨HB4.out.trans (hf5.below (fun k hk => by rcases hk with rfl | rfl <;> omega) (by omega)), HS4.out.apart hf5 hSS hSg hgS hggg⟩
    have HMUT := hide MUT
    clear MUT
    obtain ⟨b, hb⟩ : ∃ b, m k = b := ⟨_, rfl⟩
    have HMB := hide hb
    rw [hb] at HHS HMUT
    have hREM : b = true → Calls Tryd.prog 15 #[.pointer (some ⟨S2, 0, none⟩), .int .i64 (k : Nat)] w4 fun e w' => e = .returned (.tuple #[.bool true, .nilIface]) ∧ SetAt w' S2 g2 cap2 n (put m k (!b)) ∧ Foot w4 w' (fun k => k = S2 ∨ k = g2) := fun h => by
      subst h; exact rem_new w4 HT4.out k hkn hb
    have hADD : b = false → Calls Tryd.prog 16 #[.pointer (some ⟨S2, 0, none⟩), .int .i64 (k : Nat)] w4 fun e w' => e = .returned (.tuple #[.bool true, .nilIface]) ∧ SetAt w' S2 g2 cap2 n (put m k (!b)) ∧ Foot w4 w' (fun k => k = S2 ∨ k = g2) := fun h => by
      subst h; exact add_new w4 HT4.out k hkn hb
    have HREM := hide hREM
    have HADD := hide hADD
    clear hREM hADD hb
    cases b with
    | true =>
      go_wp2_with fail
      refine HLN.out.mono ?_
      rintro e wz ⟨rfl, rfl⟩
      go_wp2_with fail
      refine HHS.out.mono ?_
      rintro e wz ⟨rfl, rfl⟩
      go_wp2_with fail
      refine (HREM.out trivial).mono ?_
      rintro e w5 ⟨rfl, hs5, hf5⟩
      obtain ⟨hb5, hss5⟩ := HMUT.out w5 hs5 hf5
      have HB5 := hide hb5
      have HS5 := hide hss5
      have HT5 := hide hs5
      have z5 := hb5.size
      clear hb5 hss5 hs5 hf5 HHS HMUT HREM HADD HS4 HT4 HLN
      go_wp2_with fail
      refine (encode_set w5 HS5.out).mono ?_
      rintro e w6 ⟨q6, _, rfl, hh6, hb6⟩
      have HB6 := hide (HB5.out.trans (hb6.mono z5))
      have HS6 := hide (HS5.out.keep hb6)
      have HT6 := hide (HT5.out.keep hb6)
      have HQ6 := hide (src_encS hn hh6)
      have z6 := HB6.out.size
      clear hh6 hb6 HS5 HT5
      have HY := hide (bytes_same w6 _ _ _ HQ6.out (by rw [← HBS.out]; exact src_keep H1.out HB6.out))
      go_wp2_with fail
      refine HY.out.mono ?_
      rintro e wz ⟨rfl, rfl⟩
      clear HY
      go_wp2_with fail
      refine (encode_set w6 HT6.out).mono ?_
      rintro e w7 ⟨q7, _, rfl, hh7, hb7⟩
      have HB7 := hide (HB6.out.trans (hb7.mono z6))
      have HS7 := hide (HS6.out.keep hb7)
      have HT7 := hide (HT6.out.keep hb7)
      have HQ7 := hide (src_encS hn hh7)
      have z7 := HB7.out.size
      clear hh7 hb7 HS6 HT6
      have hne := enc_ne (m := m) hkn
      rw [HMB.out] at hne
      have hpn := put_ne (i := k) (m := m)
      rw [HMB.out] at hpn
      have HY := hide (bytes_diff w7 _ _ _ bs HQ7.out (src_keep H1.out HB7.out) (by rw [HBS.out]; exact hne))
      have HEQ := hide (equal_no w7 HS7.out HT7.out (fun _ => hpn))
      clear hne hpn
      go_wp2_with fail
      refine HY.out.mono ?_
      rintro e wz ⟨rfl, rfl⟩
      go_wp2_with fail
      refine HEQ.out.mono ?_
      rintro e wz ⟨rfl, q, rfl⟩
      have HS8 := hide (HS7.out.keep (below_drewN (Below.refl _ _) q))
      have HT8 := hide (HT7.out.keep (below_drewN (Below.refl _ _) q))
      have HB8 := hide (below_drewN HB7.out q)
      have hh1 := has_in _ HS8.out k hkn
      rw [HMB.out] at hh1
      have hh2 := has_in _ HT8.out k hkn
      unfold put at hh2
      rw [if_pos rfl] at hh2
      have HH1 := hide hh1
      have HH2 := hide hh2
      clear hh1 hh2 HY HEQ
      go_wp2_with fail
      refine HH1.out.mono ?_
      rintro e wz ⟨rfl, rfl⟩
      go_wp2_with fail
      refine HH2.out.mono ?_
      rintro e wz ⟨rfl, rfl⟩
      go_wp2_with fail
      go_ret
      exact ⟨rfl, HB8.out⟩
    | false =>
      go_wp2_with fail
      refine HLN.out.mono ?_
      rintro e wz ⟨rfl, rfl⟩
      go_wp2_with fail
      refine HHS.out.mono ?_
      rintro e wz ⟨rfl, rfl⟩
      go_wp2_with fail
      refine (HADD.out trivial).mono ?_
      rintro e w5 ⟨rfl, hs5, hf5⟩
      obtain ⟨hb5, hss5⟩ := HMUT.out w5 hs5 hf5
      have HB5 := hide hb5
      have HS5 := hide hss5
      have HT5 := hide hs5
      have z5 := hb5.size
      clear hb5 hss5 hs5 hf5 HHS HMUT HREM HADD HS4 HT4 HLN
      go_wp2_with fail
      refine (encode_set w5 HS5.out).mono ?_
      rintro e w6 ⟨q6, _, rfl, hh6, hb6⟩
      have HB6 := hide (HB5.out.trans (hb6.mono z5))
      have HS6 := hide (HS5.out.keep hb6)
      have HT6 := hide (HT5.out.keep hb6)
      have HQ6 := hide (src_encS hn hh6)
      have z6 := HB6.out.size
      clear hh6 hb6 HS5 HT5
      have HY := hide (bytes_same w6 _ _ _ HQ6.out (by rw [← HBS.out]; exact src_keep H1.out HB6.out))
      go_wp2_with fail
      refine HY.out.mono ?_
      rintro e wz ⟨rfl, rfl⟩
      clear HY
      go_wp2_with fail
      refine (encode_set w6 HT6.out).mono ?_
      rintro e w7 ⟨q7, _, rfl, hh7, hb7⟩
      have HB7 := hide (HB6.out.trans (hb7.mono z6))
      have HS7 := hide (HS6.out.keep hb7)
      have HT7 := hide (HT6.out.keep hb7)
      have HQ7 := hide (src_encS hn hh7)
      have z7 := HB7.out.size
      clear hh7 hb7 HS6 HT6
      have hne := enc_ne (m := m) hkn
      rw [HMB.out] at hne
      have hpn := put_ne (i := k) (m := m)
      rw [HMB.out] at hpn
      have HY := hide (bytes_diff w7 _ _ _ bs HQ7.out (src_keep H1.out HB7.out) (by rw [HBS.out]; exact hne))
      have HEQ := hide (equal_no w7 HS7.out HT7.out (fun _ => hpn))
      clear hne hpn
      go_wp2_with fail
      refine HY.out.mono ?_
      rintro e wz ⟨rfl, rfl⟩
      go_wp2_with fail
      refine HEQ.out.mono ?_
      rintro e wz ⟨rfl, q, rfl⟩
      have HS8 := hide (HS7.out.keep (below_drewN (Below.refl _ _) q))
      have HT8 := hide (HT7.out.keep (below_drewN (Below.refl _ _) q))
      have HB8 := hide (below_drewN HB7.out q)
      have hh1 := has_in _ HS8.out k hkn
      rw [HMB.out] at hh1
      have hh2 := has_in _ HT8.out k hkn
      unfold put at hh2
      rw [if_pos rfl] at hh2
      have HH1 := hide hh1
      have HH2 := hide hh2
      clear hh1 hh2 HY HEQ
      go_wp2_with fail
      refine HH1.out.mono ?_
      rintro e wz ⟨rfl, rfl⟩
      go_wp2_with fail
      refine HH2.out.mono ?_
      rintro e wz ⟨rfl, rfl⟩
      go_wp2_with fail
      go_ret
      exact ⟨rfl, HB8.out⟩
  · clear hno
    go_wp2_with fail
    go_ret
    exact ⟨rfl, HB2.out⟩
end Go.Proofs.YtmkbbekeimnajaaDoor

/-! Rf: A range over a function whose iterator also tells what lies in memory at what it hands over; plain, for any program. -/
namespace Go.Proofs.YtmkbbekeimnajaaDoor
open Go.RowKit
variable {F : Fence} {n : Nat} {P : Program}

/-- the blocks of S lie as they lay -/
structure Same (S : Nat → Prop) (A C : World) : Prop where
  size : A.heap.size ≤ C.heap.size
  same : ∀ (k : Nat) (o : Obj), S k → A.heap[k]? = some o → C.heap[k]? = some o
theorem Same.refl (S : Nat → Prop) (A : World) : Same S A A := ⟨Nat.le_refl _, fun _ _ _ h => h⟩
theorem Same.trans {S : Nat → Prop} {A C D : World} (h : Same S A C) (k : Same S C D) : Same S A D := ⟨Nat.le_trans h.size k.size, fun i o hi ho => k.same i o hi (h.same i o hi ho)⟩
theorem same_below {S : Nat → Prop} {A C : World} (h : Below A.heap.size A C) : Same S A C := ⟨h.size, fun k _ _ hk => (h.block k (Array.getElem?_eq_some_iff.1 hk).1).trans hk⟩
theorem same_under {S : Nat → Prop} {B : Nat} {A C : World} (h : Below B A C) (hS : ∀ k, S k → k < B) : Same S A C := ⟨h.size, fun k _ hk ho => (h.block k (hS k hk)).trans ho⟩
theorem same_cell {S : Nat → Prop} {A C : World} (h : Same S A C) {p : Addr} {v : Value} (hp : S p.block) (hv : A.cell? p = some v) : C.cell? p = some v := by
  obtain ⟨o, ho, _⟩ := cells_of_cell hv
  exact (World.cell?_of_block ((h.same _ _ hp ho).trans ho.symm)).trans hv

/-- THE ITERATOR: between two rounds it leaves all that lay there (J, Jx abide new blocks); what it hands over is 'Ok', told of the world behind the round ahead (A) and of this one (C); a round keeps the blocks of S. -/
def Tells {α : Type} (F : Fence) (n : Nat) (P : Program) (gf : Nat) (lb : Array Value) (encs : α → Array Value) (Ok : World → α → World → Prop) (Sa Sp : List α → Prop) (S : Nat → Prop) (w : World) : Prop :=
  ∀ (l : Nat) (J Jx : List α → World → Prop) (W : World), Below w.heap.size w W → (∀ s A C, J s A → Below A.heap.size A C → J s C) → (∀ s A C, Jx s A → Below A.heap.size A C → Jx s C) →
    (∀ pre x A C, J pre A → Below A.heap.size A C → Ok A x C → YieldAt F (n - 1) P l (encs x) C fun e C' => (e = .returned (.bool true) ∧ J (pre ++ [x]) C' ∧ Same S C C') ∨ (e = .returned (.bool false) ∧ Jx (pre ++ [x]) C')) →
    J [] W → CallsIn F n P gf (#[.func (.yield l) #[] #[]] ++ lb) W fun e W' => (∃ v, e = .returned v) ∧ ((∃ xs, Sa xs ∧ J xs W') ∨ (∃ pre, Sp pre ∧ Jx pre W'))

theorem ownFrom_later {β : Type} {B : Nat} {I : β → World → Prop} (h : OwnFrom B I) {s : β} {A C : World} (hs : I s A) (hb : Below A.heap.size A C) : I s C :=
  h s A C none hs (grown_of_below hb) (fun _ e => by cases e)

/-- THE LOOP -/
theorem range_told {α : Type} {g : Operand} {ps : Array Tmp} {assign body : Code} {Q : Exit → Act → World → Prop} {a : Act} {w : World}
    (hro : F.round = none) (h1 : 1 ≤ n) {gf : Nat} {lb : Array Value} (hg : a.eval g = .func (.func gf) #[] lb) (hFg : F.fn gf) (eg : ∀ args w, (callFunc gf args).run P w = .ok (.enter gf args) w)
    {encs : α → Array Value} {Ok : World → α → World → Prop} {Sa Sp : List α → Prop} {S : Nat → Prop} (hseq : Tells F (n - 1) P gf lb encs Ok Sa Sp S w) (hB : ∀ k, S k → k < w.heap.size) (hps : ∀ x, (encs x).size = ps.size)
    (I : List α → World → Prop) (Ix : Code → List α → World → Prop) (T : List α → α → Act → World → Prop) (hI : OwnFrom w.heap.size I) (hIx : ∀ c, OwnFrom w.heap.size (Ix c)) (hT : ∀ a', OwnFrom w.heap.size (fun (s : List α × α) W => T s.1 s.2 a' W)) (h0 : I [] w)
    (hassign : ∀ (l : Nat) (pre : List α) (x : α) (A C : World) (K : Act → World → Prop), I pre A → Below A.heap.size A C → Ok A x C → w.heap.size ≤ A.heap.size → (∀ a' C', KeepsFrom w.heap.size C C' → Same S C C' → T pre x a' C' → K a' C') →
      assign.wpIn (F.inRound l) (n - 1 - 1) P (Exit.then K (fun _ _ _ => False)) { tmps := (ps.zip (encs x)).foldl (fun t (p, v) => t.setIfInBounds p v) a.tmps, defers := [] } C)
    (hbody : ∀ (l : Nat) (pre : List α) (x : α) (a' : Act) (W : World), T pre x a' W → body.wpIn (F.inRound l) (n - 1 - 1) P (ownPostG w.heap.size (Same S) I Ix (pre ++ [x]) W) a' W)
    (hdone : ∀ (D : Nat) (xs : List α) (W : World), w.heap.size ≤ D → Sa xs → I xs W → W.heap[D]? = some (.deferred (some [])) → Q .normal { a with defers := { target := .collected D, args := #[] } :: a.defers } W)
    (hstop : ∀ (D : Nat) (c : Code) (pre : List α) (W : World), w.heap.size ≤ D → Sp pre → Ix c pre W → W.heap[D]? = some (.deferred (some [])) → c.wpIn F n P Q { a with defers := { target := .collected D, args := #[] } :: a.defers } W) :
    (Code.rangeFunc g ps assign body).wpIn F n P Q a w := by
  refine wpIn_rangeFunc fun fn hfn => ?_
  rw [hro]
  have book : ∃ R : LoopState → Option Code → Loop, ∀ st pe, R st pe = { state := st, pending := pe, fn := fn, tmps := a.tmps, params := ps, assign := assign, body := body, defers := w.heap.size } := ⟨_, fun _ _ => rfl⟩
  obtain ⟨R, hR⟩ := book
  have hlaid := run_enterLoop_outer (P := P) (w := w) fn a.tmps ps assign body
  rw [← hR] at hlaid
  have hd1 : ((w.alloc (.deferred (some []))).alloc (.loop (R .ready none))).heap[w.heap.size]? = some (.deferred (some [])) := (Below.heap_alloc _ _ _ (by simp)).trans (World.alloc_heap_new w _)
  have hl1 : ((w.alloc (.deferred (some []))).alloc (.loop (R .ready none))).heap[w.heap.size + 1]? = some (.loop (R .ready none)) := by
    have h := World.alloc_heap_new (w.alloc (.deferred (some []))) (.loop (R .ready none))
    rwa [World.size_alloc] at h
  have hi1 := hI.alloc (.loop (R .ready none)) (hI.alloc (.deferred (some [])) h0)
  have hb1 := ((Below.refl w.heap.size w).alloc (Nat.le_refl _) (.deferred (some []))).alloc (by simp) (.loop (R .ready none))
  have hz1 : w.heap.size ≤ ((w.alloc (.deferred (some []))).alloc (.loop (R .ready none))).heap.size := hb1.size
  generalize (w.alloc (.deferred (some []))).alloc (.loop (R .ready none)) = W1 at hlaid hd1 hl1 hi1 hb1 hz1
  refine ⟨w.heap.size + 1, [{ target := .collected w.heap.size, args := #[] }], W1, { target := .fn (.func gf) lb, args := #[.func (.yield (w.heap.size + 1)) #[] #[]] }, W1, gf, #[.func (.yield (w.heap.size + 1)) #[] #[]] ++ lb, W1, hlaid, ?_, ?_, ?_, fun _ => h1, ?_⟩
  · simp only [resolve, hg]
    simp [go_sem]
  · intro f' hf'
    simp [Target.leads] at hf'
    subst hf'
    exact hFg
  · simp [invoke, go_sem, eg]
  -- the books: the record and the block for deferred calls
  have kept : ∀ {X Y : World} {o : Obj} {k : Nat}, Below X.heap.size X Y → X.heap[k]? = some o → Y.heap[k]? = some o := fun hb hk => (hb.block _ (Array.getElem?_eq_some_iff.1 hk).1).trans hk
  have turned : ∀ {X : World} {r : Loop} {o' : Obj}, X.heap[w.heap.size + 1]? = some (.loop r) → Same S X (X.putObj (w.heap.size + 1) o') := fun {X r o'} h =>
    ⟨(grownBy_putObj' X (w.heap.size + 1) o').size, fun k o hk ho => (World.putObj_heap_other (fun e => by have := hB k hk; omega)).trans ho⟩
  refine (hseq (w.heap.size + 1)
    (fun pre W => I pre W ∧ W.heap[w.heap.size + 1]? = some (.loop (R .ready none)) ∧ W.heap[w.heap.size]? = some (.deferred (some [])))
    (fun pre W => ∃ c, Ix c pre W ∧ W.heap[w.heap.size + 1]? = some (.loop (R .done (some c))) ∧ W.heap[w.heap.size]? = some (.deferred (some [])))
    W1 hb1
    (fun s A C h hb => ⟨ownFrom_later hI h.1 hb, kept hb h.2.1, kept hb h.2.2⟩)
    (fun s A C h hb => by
      obtain ⟨c, hc, h2, h3⟩ := h
      exact ⟨c, ownFrom_later (hIx c) hc hb, kept hb h2, kept hb h3⟩)
    ?_ ⟨hi1, hl1, hd1⟩).mono ?_
  · rintro pre x A C ⟨hi, hl, hd⟩ hb hok
    have hzA : w.heap.size ≤ A.heap.size := by have := (Array.getElem?_eq_some_iff.1 hd).1; omega
    have hlC := kept hb hl
    have hdC := kept hb hd
    have hy := run_yield (P := P) (args := encs x) hlC (by rw [hR]; exact hps x)
    rw [hR] at hy
    refine ⟨fn, _, assign, body, hy, roundIn_of_wpIn hfn (hassign _ pre x A C _ hi hb hok hzA fun a' C2 hk2 hb2 ht => ?_)⟩
    have hl2 := hk2.same _ _ (by omega) hlC rfl
    have hd2 := hk2.same _ _ (Nat.le_refl _) hdC rfl
    have hlt := (Array.getElem?_eq_some_iff.1 hl2).1
    refine ⟨_, run_beginRound hl2 (by rw [hR]), ?_⟩
    have hbusy : (C2.putObj (w.heap.size + 1) (.loop { R .ready none with state := .busy })).heap[w.heap.size + 1]? = some (.loop { R .ready none with state := .busy }) := World.putObj_heap_same hlt
    have hd3 : (C2.putObj (w.heap.size + 1) (.loop { R .ready none with state := .busy })).heap[w.heap.size]? = some (.deferred (some [])) := (World.putObj_heap_other (by omega)).trans hd2
    have hb3 := turned (o' := .loop { R .ready none with state := .busy }) hl2
    have ht3 := (hT a').putObj (s := (pre, x)) (.loop { R .ready none with state := .busy }) ht (l := w.heap.size + 1) (by omega) hl2 rfl
    generalize C2.putObj (w.heap.size + 1) (.loop { R .ready none with state := .busy }) = C3 at hbusy hd3 hb3 ht3
    have close : ∀ (j : Option Code) (C4 : World), KeepsFrom w.heap.size C3 C4 → ∃ C5, (Instr.endRound (w.heap.size + 1) j).run P C4 = .ok (.bool j.isNone) C5 ∧ C5 = C4.putObj (w.heap.size + 1) (.loop (R (if j.isNone then .ready else .done) j)) ∧
        C4.heap[w.heap.size + 1]? = some (.loop { R .ready none with state := .busy }) ∧ C5.heap[w.heap.size + 1]? = some (.loop (R (if j.isNone then .ready else .done) j)) ∧ C5.heap[w.heap.size]? = some (.deferred (some [])) := by
      intro j C4 hk4
      have hl4 := hk4.same _ _ (by omega) hbusy rfl
      have h := run_endRound (P := P) j hl4
      rw [hR] at h
      exact ⟨_, h, by rw [hR], hl4, by rw [hR]; exact World.putObj_heap_same (Array.getElem?_eq_some_iff.1 hl4).1, (World.putObj_heap_other (by omega)).trans (hk4.same _ _ (Nat.le_refl _) hd3 rfl)⟩
    refine wpIn_mono (hbody _ pre x a' _ ht3) ?_
    intro e a4 C4 hp
    match e, hp with
    | .normal, ⟨hk4, hb4, hi4⟩ =>
      obtain ⟨C5, hr, rfl, h4, h5, h6⟩ := close none C4 hk4
      exact ⟨_, _, hr, .inl ⟨rfl, ⟨hI.putObj _ hi4 (by omega) h4 rfl, h5, h6⟩, hb2.trans (hb3.trans (hb4.trans (turned h4)))⟩⟩
    | .ret, ⟨hk4, hi4⟩ =>
      obtain ⟨C5, hr, rfl, h4, h5, h6⟩ := close (some .ret) C4 hk4
      exact ⟨_, _, hr, .inr ⟨rfl, .ret, (hIx _).putObj _ hi4 (by omega) h4 rfl, h5, h6⟩⟩
    | .exit id, ⟨hk4, hi4⟩ =>
      obtain ⟨C5, hr, rfl, h4, h5, h6⟩ := close (some (.exit id)) C4 hk4
      exact ⟨_, _, hr, .inr ⟨rfl, .exit id, (hIx _).putObj _ hi4 (by omega) h4 rfl, h5, h6⟩⟩
    | .goto t, ⟨hk4, hi4⟩ =>
      obtain ⟨C5, hr, rfl, h4, h5, h6⟩ := close (some (.goto t)) C4 hk4
      exact ⟨_, _, hr, .inr ⟨rfl, .goto t, (hIx _).putObj _ hi4 (by omega) h4 rfl, h5, h6⟩⟩
  · rintro e W2 ⟨⟨v, rfl⟩, ⟨xs, hS, hi, hl, hd⟩ | ⟨pre, hS, c, hi, hl, hd⟩⟩
    · have h := run_endLoop (P := P) hl (by rw [hR]; simp)
      rw [hR] at h
      exact ⟨none, _, h, hdone _ xs _ (Nat.le_refl _) hS (hI.putObj _ hi (by omega) hl rfl) ((World.putObj_heap_other (by omega)).trans hd)⟩
    · have h := run_endLoop (P := P) hl (by rw [hR]; simp)
      rw [hR] at h
      exact ⟨some c, _, h, hstop _ c pre _ (Nat.le_refl _) hS ((hIx c).putObj _ hi (by omega) hl rfl) ((World.putObj_heap_other (by omega)).trans hd)⟩

/-- THE ITERATOR: between two rounds it leaves all that lay there (J, Jx abide new blocks); what it hands over is 'Ok', told of the world behind the round ahead (A) and of this one (C); a round keeps the blocks of S. -/
def TellsAt {α : Type} (F : Fence) (n : Nat) (P : Program) (gf : Nat) (lb : Array Value) (encs : α → Array Value) (Ok : List α → World → α → World → Prop) (Sa Sp : List α → Prop) (S : Nat → Prop) (w : World) : Prop :=
  ∀ (l : Nat) (J Jx : List α → World → Prop) (W : World), Below w.heap.size w W → (∀ s A C, J s A → Below A.heap.size A C → J s C) → (∀ s A C, Jx s A → Below A.heap.size A C → Jx s C) →
    (∀ pre x A C, J pre A → Below A.heap.size A C → Ok pre A x C → YieldAt F (n - 1) P l (encs x) C fun e C' => (e = .returned (.bool true) ∧ J (pre ++ [x]) C' ∧ Same S C C') ∨ (e = .returned (.bool false) ∧ Jx (pre ++ [x]) C')) →
    J [] W → CallsIn F n P gf (#[.func (.yield l) #[] #[]] ++ lb) W fun e W' => (∃ v, e = .returned v) ∧ ((∃ xs, Sa xs ∧ J xs W') ∨ (∃ pre, Sp pre ∧ Jx pre W'))

/-- THE LOOP -/
theorem range_told_at {α : Type} {g : Operand} {ps : Array Tmp} {assign body : Code} {Q : Exit → Act → World → Prop} {a : Act} {w : World}
    (hro : F.round = none) (h1 : 1 ≤ n) {gf : Nat} {lb : Array Value} (hg : a.eval g = .func (.func gf) #[] lb) (hFg : F.fn gf) (eg : ∀ args w, (callFunc gf args).run P w = .ok (.enter gf args) w)
    {encs : α → Array Value} {Ok : List α → World → α → World → Prop} {Sa Sp : List α → Prop} {S : Nat → Prop} (hseq : TellsAt F (n - 1) P gf lb encs Ok Sa Sp S w) (hB : ∀ k, S k → k < w.heap.size) (hps : ∀ x, (encs x).size = ps.size)
    (I : List α → World → Prop) (Ix : Code → List α → World → Prop) (T : List α → α → Act → World → Prop) (hI : OwnFrom w.heap.size I) (hIx : ∀ c, OwnFrom w.heap.size (Ix c)) (hT : ∀ a', OwnFrom w.heap.size (fun (s : List α × α) W => T s.1 s.2 a' W)) (h0 : I [] w)
    (hassign : ∀ (l : Nat) (pre : List α) (x : α) (A C : World) (K : Act → World → Prop), I pre A → Below A.heap.size A C → Ok pre A x C → w.heap.size ≤ A.heap.size → (∀ a' C', KeepsFrom w.heap.size C C' → Same S C C' → T pre x a' C' → K a' C') →
      assign.wpIn (F.inRound l) (n - 1 - 1) P (Exit.then K (fun _ _ _ => False)) { tmps := (ps.zip (encs x)).foldl (fun t (p, v) => t.setIfInBounds p v) a.tmps, defers := [] } C)
    (hbody : ∀ (l : Nat) (pre : List α) (x : α) (a' : Act) (W : World), T pre x a' W → body.wpIn (F.inRound l) (n - 1 - 1) P (ownPostG w.heap.size (Same S) I Ix (pre ++ [x]) W) a' W)
    (hdone : ∀ (D : Nat) (xs : List α) (W : World), w.heap.size ≤ D → Sa xs → I xs W → W.heap[D]? = some (.deferred (some [])) → Q .normal { a with defers := { target := .collected D, args := #[] } :: a.defers } W)
    (hstop : ∀ (D : Nat) (c : Code) (pre : List α) (W : World), w.heap.size ≤ D → Sp pre → Ix c pre W → W.heap[D]? = some (.deferred (some [])) → c.wpIn F n P Q { a with defers := { target := .collected D, args := #[] } :: a.defers } W) :
    (Code.rangeFunc g ps assign body).wpIn F n P Q a w := by
  refine wpIn_rangeFunc fun fn hfn => ?_
  rw [hro]
  have book : ∃ R : LoopState → Option Code → Loop, ∀ st pe, R st pe = { state := st, pending := pe, fn := fn, tmps := a.tmps, params := ps, assign := assign, body := body, defers := w.heap.size } := ⟨_, fun _ _ => rfl⟩
  obtain ⟨R, hR⟩ := book
  have hlaid := run_enterLoop_outer (P := P) (w := w) fn a.tmps ps assign body
  rw [← hR] at hlaid
  have hd1 : ((w.alloc (.deferred (some []))).alloc (.loop (R .ready none))).heap[w.heap.size]? = some (.deferred (some [])) := (Below.heap_alloc _ _ _ (by simp)).trans (World.alloc_heap_new w _)
  have hl1 : ((w.alloc (.deferred (some []))).alloc (.loop (R .ready none))).heap[w.heap.size + 1]? = some (.loop (R .ready none)) := by
    have h := World.alloc_heap_new (w.alloc (.deferred (some []))) (.loop (R .ready none))
    rwa [World.size_alloc] at h
  have hi1 := hI.alloc (.loop (R .ready none)) (hI.alloc (.deferred (some [])) h0)
  have hb1 := ((Below.refl w.heap.size w).alloc (Nat.le_refl _) (.deferred (some []))).alloc (by simp) (.loop (R .ready none))
  have hz1 : w.heap.size ≤ ((w.alloc (.deferred (some []))).alloc (.loop (R .ready none))).heap.size := hb1.size
  generalize (w.alloc (.deferred (some []))).alloc (.loop (R .ready none)) = W1 at hlaid hd1 hl1 hi1 hb1 hz1
  refine ⟨w.heap.size + 1, [{ target := .collected w.heap.size, args := #[] }], W1, { target := .fn (.func gf) lb, args := #[.func (.yield (w.heap.size + 1)) #[] #[]] }, W1, gf, #[.func (.yield (w.heap.size + 1)) #[] #[]] ++ lb, W1, hlaid, ?_, ?_, ?_, fun _ => h1, ?_⟩
  · simp only [resolve, hg]
    simp [go_sem]
  · intro f' hf'
    simp [Target.leads] at hf'
    subst hf'
    exact hFg
  · simp [invoke, go_sem, eg]
  -- the books: the record and the block for deferred calls
  have kept : ∀ {X Y : World} {o : Obj} {k : Nat}, Below X.heap.size X Y → X.heap[k]? = some o → Y.heap[k]? = some o := fun hb hk => (hb.block _ (Array.getElem?_eq_some_iff.1 hk).1).trans hk
  have turned : ∀ {X : World} {r : Loop} {o' : Obj}, X.heap[w.heap.size + 1]? = some (.loop r) → Same S X (X.putObj (w.heap.size + 1) o') := fun {X r o'} h =>
    ⟨(grownBy_putObj' X (w.heap.size + 1) o').size, fun k o hk ho => (World.putObj_heap_other (fun e => by have := hB k hk; omega)).trans ho⟩
  refine (hseq (w.heap.size + 1)
    (fun pre W => I pre W ∧ W.heap[w.heap.size + 1]? = some (.loop (R .ready none)) ∧ W.heap[w.heap.size]? = some (.deferred (some [])))
    (fun pre W => ∃ c, Ix c pre W ∧ W.heap[w.heap.size + 1]? = some (.loop (R .done (some c))) ∧ W.heap[w.heap.size]? = some (.deferred (some [])))
    W1 hb1
    (fun s A C h hb => ⟨ownFrom_later hI h.1 hb, kept hb h.2.1, kept hb h.2.2⟩)
    (fun s A C h hb => by
      obtain ⟨c, hc, h2, h3⟩ := h
      exact ⟨c, ownFrom_later (hIx c) hc hb, kept hb h2, kept hb h3⟩)
    ?_ ⟨hi1, hl1, hd1⟩).mono ?_
  · rintro pre x A C ⟨hi, hl, hd⟩ hb hok
    have hzA : w.heap.size ≤ A.heap.size := by have := (Array.getElem?_eq_some_iff.1 hd).1; omega
    have hlC := kept hb hl
    have hdC := kept hb hd
    have hy := run_yield (P := P) (args := encs x) hlC (by rw [hR]; exact hps x)
    rw [hR] at hy
    refine ⟨fn, _, assign, body, hy, roundIn_of_wpIn hfn (hassign _ pre x A C _ hi hb hok hzA fun a' C2 hk2 hb2 ht => ?_)⟩
    have hl2 := hk2.same _ _ (by omega) hlC rfl
    have hd2 := hk2.same _ _ (Nat.le_refl _) hdC rfl
    have hlt := (Array.getElem?_eq_some_iff.1 hl2).1
    refine ⟨_, run_beginRound hl2 (by rw [hR]), ?_⟩
    have hbusy : (C2.putObj (w.heap.size + 1) (.loop { R .ready none with state := .busy })).heap[w.heap.size + 1]? = some (.loop { R .ready none with state := .busy }) := World.putObj_heap_same hlt
    have hd3 : (C2.putObj (w.heap.size + 1) (.loop { R .ready none with state := .busy })).heap[w.heap.size]? = some (.deferred (some [])) := (World.putObj_heap_other (by omega)).trans hd2
    have hb3 := turned (o' := .loop { R .ready none with state := .busy }) hl2
    have ht3 := (hT a').putObj (s := (pre, x)) (.loop { R .ready none with state := .busy }) ht (l := w.heap.size + 1) (by omega) hl2 rfl
    generalize C2.putObj (w.heap.size + 1) (.loop { R .ready none with state := .busy }) = C3 at hbusy hd3 hb3 ht3
    have close : ∀ (j : Option Code) (C4 : World), KeepsFrom w.heap.size C3 C4 → ∃ C5, (Instr.endRound (w.heap.size + 1) j).run P C4 = .ok (.bool j.isNone) C5 ∧ C5 = C4.putObj (w.heap.size + 1) (.loop (R (if j.isNone then .ready else .done) j)) ∧
        C4.heap[w.heap.size + 1]? = some (.loop { R .ready none with state := .busy }) ∧ C5.heap[w.heap.size + 1]? = some (.loop (R (if j.isNone then .ready else .done) j)) ∧ C5.heap[w.heap.size]? = some (.deferred (some [])) := by
      intro j C4 hk4
      have hl4 := hk4.same _ _ (by omega) hbusy rfl
      have h := run_endRound (P := P) j hl4
      rw [hR] at h
      exact ⟨_, h, by rw [hR], hl4, by rw [hR]; exact World.putObj_heap_same (Array.getElem?_eq_some_iff.1 hl4).1, (World.putObj_heap_other (by omega)).trans (hk4.same _ _ (Nat.le_refl _) hd3 rfl)⟩
    refine wpIn_mono (hbody _ pre x a' _ ht3) ?_
    intro e a4 C4 hp
    match e, hp with
    | .normal, ⟨hk4, hb4, hi4⟩ =>
      obtain ⟨C5, hr, rfl, h4, h5, h6⟩ := close none C4 hk4
      exact ⟨_, _, hr, .inl ⟨rfl, ⟨hI.putObj _ hi4 (by omega) h4 rfl, h5, h6⟩, hb2.trans (hb3.trans (hb4.trans (turned h4)))⟩⟩
    | .ret, ⟨hk4, hi4⟩ =>
      obtain ⟨C5, hr, rfl, h4, h5, h6⟩ := close (some .ret) C4 hk4
      exact ⟨_, _, hr, .inr ⟨rfl, .ret, (hIx _).putObj _ hi4 (by omega) h4 rfl, h5, h6⟩⟩
    | .exit id, ⟨hk4, hi4⟩ =>
      obtain ⟨C5, hr, rfl, h4, h5, h6⟩ := close (some (.exit id)) C4 hk4
      exact ⟨_, _, hr, .inr ⟨rfl, .exit id, (hIx _).putObj _ hi4 (by omega) h4 rfl, h5, h6⟩⟩
    | .goto t, ⟨hk4, hi4⟩ =>
      obtain ⟨C5, hr, rfl, h4, h5, h6⟩ := close (some (.goto t)) C4 hk4
      exact ⟨_, _, hr, .inr ⟨rfl, .goto t, (hIx _).putObj _ hi4 (by omega) h4 rfl, h5, h6⟩⟩
  · rintro e W2 ⟨⟨v, rfl⟩, ⟨xs, hS, hi, hl, hd⟩ | ⟨pre, hS, c, hi, hl, hd⟩⟩
    · have h := run_endLoop (P := P) hl (by rw [hR]; simp)
      rw [hR] at h
      exact ⟨none, _, h, hdone _ xs _ (Nat.le_refl _) hS (hI.putObj _ hi (by omega) hl rfl) ((World.putObj_heap_other (by omega)).trans hd)⟩
    · have h := run_endLoop (P := P) hl (by rw [hR]; simp)
      rw [hR] at h
      exact ⟨some c, _, h, hstop _ c pre _ (Nat.le_refl _) hS ((hIx c).putObj _ hi (by omega) hl rfl) ((World.putObj_heap_other (by omega)).trans hd)⟩
end Go.Proofs.YtmkbbekeimnajaaDoor

/-! Ra: A range over a function: the frame of a round named by what is handed over; plain, for any program. The marks that loops leave. -/
namespace Go.Proofs.YtmkbbekeimnajaaDoor
open Go.RowKit
variable {F : Fence} {n : Nat} {P : Program}
theorem ownFrom_and {β : Type} {B : Nat} {p : Prop} {I : β → World → Prop} (h : OwnFrom B I) : OwnFrom B (fun s W => p ∧ I s W) := fun s A C row hs hg hr => ⟨hs.1, h s A C row hs.2 hg hr⟩
theorem range_fr {α : Type} {g : Operand} {ps : Array Tmp} {assign body : Code} {Q : Exit → Act → World → Prop} {a : Act} {w : World} (fr : α → Act)
    (hro : F.round = none) (h1 : 1 ≤ n) {gf : Nat} {lb : Array Value} (hg : a.eval g = .func (.func gf) #[] lb) (hFg : F.fn gf) (eg : ∀ args w, (callFunc gf args).run P w = .ok (.enter gf args) w)
    {encs : α → Array Value} {Ok : List α → World → α → World → Prop} {Sa Sp : List α → Prop} {S : Nat → Prop} (hseq : TellsAt F (n - 1) P gf lb encs Ok Sa Sp S w) (hB : ∀ k, S k → k < w.heap.size) (hps : ∀ x, (encs x).size = ps.size)
    (I : List α → World → Prop) (Ix : Code → List α → World → Prop) (T : List α → α → World → Prop) (hI : OwnFrom w.heap.size I) (hIx : ∀ c, OwnFrom w.heap.size (Ix c)) (hT : OwnFrom w.heap.size (fun (s : List α × α) W => T s.1 s.2 W)) (h0 : I [] w)
    (hassign : ∀ (l : Nat) (pre : List α) (x : α) (A C : World) (K : Act → World → Prop), I pre A → Below A.heap.size A C → Ok pre A x C → w.heap.size ≤ A.heap.size → (∀ C', KeepsFrom w.heap.size C C' → Same S C C' → T pre x C' → K (fr x) C') →
      assign.wpIn (F.inRound l) (n - 1 - 1) P (Exit.then K (fun _ _ _ => False)) { tmps := (ps.zip (encs x)).foldl (fun t (p, v) => t.setIfInBounds p v) a.tmps, defers := [] } C)
    (hbody : ∀ (l : Nat) (pre : List α) (x : α) (W : World), T pre x W → body.wpIn (F.inRound l) (n - 1 - 1) P (ownPostG w.heap.size (Same S) I Ix (pre ++ [x]) W) (fr x) W)
    (hdone : ∀ (D : Nat) (xs : List α) (W : World), w.heap.size ≤ D → Sa xs → I xs W → W.heap[D]? = some (.deferred (some [])) → Q .normal { a with defers := { target := .collected D, args := #[] } :: a.defers } W)
    (hstop : ∀ (D : Nat) (c : Code) (pre : List α) (W : World), w.heap.size ≤ D → Sp pre → Ix c pre W → W.heap[D]? = some (.deferred (some [])) → c.wpIn F n P Q { a with defers := { target := .collected D, args := #[] } :: a.defers } W) :
    (Code.rangeFunc g ps assign body).wpIn F n P Q a w :=
  range_told_at hro h1 hg hFg eg hseq hB hps I Ix (fun pre x a' W => a' = fr x ∧ T pre x W) hI hIx (fun a' s A C row hs hg hr => ⟨hs.1, hT s A C row hs.2 hg hr⟩) h0
    (fun l pre x A C K hi hb hok hz hk => hassign l pre x A C K hi hb hok hz (fun C' h1 h2 h3 => hk _ C' h1 h2 ⟨rfl, h3⟩))
    (fun l pre x a' W ⟨e, ht⟩ => by subst e; exact hbody l pre x W ht) hdone hstop
/-- the ways out of a loop, its end and its break, meet -/
theorem range_join {α : Type} {g : Operand} {ps : Array Tmp} {assign body : Code} {b : Nat} {Q : Exit → Act → World → Prop} {a : Act} {w : World} (fr : α → Act)
    (hro : F.round = none) (h1 : 1 ≤ n) {gf : Nat} {lb : Array Value} (hg : a.eval g = .func (.func gf) #[] lb) (hFg : F.fn gf) (eg : ∀ args w, (callFunc gf args).run P w = .ok (.enter gf args) w)
    {encs : α → Array Value} {Ok : List α → World → α → World → Prop} {Sa Sp : List α → Prop} {S : Nat → Prop} (hseq : TellsAt F (n - 1) P gf lb encs Ok Sa Sp S w) (hB : ∀ k, S k → k < w.heap.size) (hps : ∀ x, (encs x).size = ps.size)
    (I : List α → World → Prop) (Ix : List α → World → Prop) (T : List α → α → World → Prop) (J : World → Prop) (hI : OwnFrom w.heap.size I) (hIx : OwnFrom w.heap.size Ix) (hT : OwnFrom w.heap.size (fun (s : List α × α) W => T s.1 s.2 W)) (h0 : I [] w)
    (hassign : ∀ (l : Nat) (pre : List α) (x : α) (A C : World) (K : Act → World → Prop), I pre A → Below A.heap.size A C → Ok pre A x C → w.heap.size ≤ A.heap.size → (∀ C', KeepsFrom w.heap.size C C' → Same S C C' → T pre x C' → K (fr x) C') →
      assign.wpIn (F.inRound l) (n - 1 - 1) P (Exit.then K (fun _ _ _ => False)) { tmps := (ps.zip (encs x)).foldl (fun t (p, v) => t.setIfInBounds p v) a.tmps, defers := [] } C)
    (hbody : ∀ (l : Nat) (pre : List α) (x : α) (W : World), T pre x W → body.wpIn (F.inRound l) (n - 1 - 1) P (ownPostG w.heap.size (Same S) I (fun c pre W => c = .exit b ∧ Ix pre W) (pre ++ [x]) W) (fr x) W)
    (hdone : ∀ (xs : List α) (W : World), Sa xs → I xs W → J W) (hstop : ∀ (pre : List α) (W : World), Sp pre → Ix pre W → J W)
    (hafter : ∀ (D : Nat) (W : World), w.heap.size ≤ D → J W → W.heap[D]? = some (.deferred (some [])) → Q .normal { a with defers := { target := .collected D, args := #[] } :: a.defers } W) :
    (Code.rangeFunc g ps assign body).wpIn F n P (Exit.inBlock b Q) a w :=
  range_fr fr hro h1 hg hFg eg hseq hB hps I (fun c pre W => c = .exit b ∧ Ix pre W) T hI (fun _ s A C row hs hg hr => ⟨hs.1, hIx s A C row hs.2 hg hr⟩) hT h0 hassign hbody
    (fun D xs W hD hs hi hd => hafter D W hD (hdone xs W hs hi) hd)
    (fun D c pre W hD hs hi hd => by
      obtain ⟨rfl, hx⟩ := hi
      refine wpIn_exit ?_
      simp only [Exit.inBlock, if_true]
      exact hafter D W hD (hstop pre W hs hx) hd)
def mk_ (D : Nat) : Deferred := { target := .collected D, args := #[] }
/-- the blocks of the marks: apart, new, no call in them -/
def Marks (W : World) (B : Nat) (Ds : List Nat) : Prop := Ds.Nodup ∧ ∀ D ∈ Ds, B ≤ D ∧ W.heap[D]? = some (.deferred (some []))
theorem marks_nil (W : World) (B : Nat) : Marks W B [] := ⟨List.nodup_nil, by simp⟩
def Past (W W' : World) (B : Nat) : Prop := Below B W W' ∧ ∀ (k : Nat) (cs : Array Value) (t : TypeId) (fr : Nat × Nat), W.heap[k]? = some (.cells cs t fr) → W'.heap[k]? = some (.cells cs t fr)
theorem leaves_marks {fn : Func} {tmps : Array Value} {R : Ending → World → Prop} {B : Nat} : ∀ (Ds : List Nat) (W : World), Marks W B Ds → B ≤ W.heap.size → (∀ W', Past W W' B → LeavesInM F n P fn tmps R [] .returning W') → LeavesInM F n P fn tmps R (Ds.map mk_) .returning W
  | [], W, _, _, h => h W ⟨Below.refl _ _, fun _ _ _ _ hk => hk⟩
  | D :: Ds, W, hM, hB, h => by
    obtain ⟨hnd, hall⟩ := hM
    obtain ⟨hBD, hD⟩ := hall D (by simp)
    have hg := grownBy_putObj' W D (.deferred none)
    refine ⟨by simp, .inl ⟨D, _, rfl, run_takeDeferred hD, ?_⟩⟩
    refine leaves_marks Ds _ ⟨(List.nodup_cons.1 hnd).2, fun D' hD' => ⟨(hall D' (by simp [hD'])).1, ?_⟩⟩ (Nat.le_trans hB hg.size) fun W' hp => h W' ⟨?_, fun k cs t fr hk => hp.2 k cs t fr ?_⟩
    · have hne : D' ≠ D := fun e => (List.nodup_cons.1 hnd).1 (e ▸ hD')
      exact (World.putObj_heap_other hne).trans (hall D' (by simp [hD'])).2
    · exact ((Below.refl B W).grown hg hB (fun k e => by cases e; exact hBD)).trans hp.1
    · refine (World.putObj_heap_other (fun e => ?_)).trans hk
      subst e
      rw [hk] at hD
      cases hD
end Go.Proofs.YtmkbbekeimnajaaDoor

/-! Al: what All hands out -/
namespace Go.Proofs.YtmkbbekeimnajaaDoor
open Go.RowKit Ds
set_option maxRecDepth 100000 in
set_option maxHeartbeats 2000000 in
theorem all_any (w : World) {S g cap n : Nat} {m : Nat → Bool} (h : SetAt w S g cap n m) :
    Calls Tryd.prog 14 #[.pointer (some ⟨S, 0, none⟩)] w fun e w' => ∃ c S2 g2 cap2, e = .returned (.func (.func 43) #[] #[.pointer (some ⟨c, 0, none⟩)]) ∧ w.heap.size ≤ c ∧ w.heap.size ≤ S2 ∧ w.heap.size ≤ g2 ∧
      w'.heap[c]? = some (.cells #[.pointer (some ⟨S2, 0, none⟩)] 24 (0, 0)) ∧ SetAt w' S2 g2 cap2 n m ∧ Below w.heap.size w w' := by
  have HS := hide h
  clear h
  go_enter Tryd.func14, Tryd.ntmps14
  go_wp2_with fail
  refine (clone_any w HS.out).mono ?_
  rintro e w2 ⟨S2, g2, cap2, rfl, h1, h2, hs2, hb2⟩
  have HS2 := hide hs2
  have HB2 := hide hb2
  have hz2 := hb2.size
  clear hs2 hb2
  go_wp2_with fail
  go_ret
  exact ⟨w2.heap.size, S2, g2, cap2, rfl, hz2, h1, h2, heap_new rfl _, HS2.out.keep ((Below.refl _ w2).alloc (Nat.le_refl _) _), HB2.out.alloc hz2 _⟩
end Go.Proofs.YtmkbbekeimnajaaDoor
