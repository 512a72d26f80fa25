/- the algebra: words by words; the sets under way -/
import Derived.Test.YtmkbbekeimnajaaDoorRk
import Derived.Test.YtmkbbekeimnajaaDoorBo
import Derived.StillTailTactics
namespace Go.Proofs.YtmkbbekeimnajaaDoor
open Go.RowKit Ds
theorem word_and (a b : Nat → Bool) (j : Nat) : bits .and .u64 (word a j : Int) (word b j : Int) = (word (fun i => a i && b i) j : Int) := by
  rw [bits_and_u64_nat _ _ (word_lt' a j) (word_lt' b j)]
  congr 1
  refine num_ext (Nat.and_lt_two_pow _ (word_lt b j)) fun k hk => ?_
  rw [Nat.testBit_and, word_bit, word_bit]
  simp [hk]
theorem word_or (a b : Nat → Bool) (j : Nat) : bits .or .u64 (word a j : Int) (word b j : Int) = (word (fun i => a i || b i) j : Int) := by
  rw [bits_or_u64_nat _ _ (word_lt' a j) (word_lt' b j)]
  congr 1
  refine num_ext (Nat.or_lt_two_pow (word_lt a j) (word_lt b j)) fun k hk => ?_
  rw [Nat.testBit_or, word_bit, word_bit]
  simp [hk]
theorem word_minus (a b : Nat → Bool) (j : Nat) : bits .andNot .u64 (word a j : Int) (word b j : Int) = (word (fun i => a i && !b i) j : Int) := by
  have hw := word_lt' (fun i => a i && !b i) j
  have hx : (BitVec.ofNat 64 (word a j) &&& ~~~(BitVec.ofNat 64 (word b j))).toNat = word (fun i => a i && !b i) j := by
    refine num_ext (BitVec.isLt _) fun k hk => ?_
    rw [BitVec.testBit_toNat, BitVec.getLsbD_and, BitVec.getLsbD_not, BitVec.getLsbD_ofNat, BitVec.getLsbD_ofNat, word_bit, word_bit]
    simp [hk]
  show IntKind.u64.wrap ((BitVec.ofInt 64 ((word a j : Nat) : Int) &&& ~~~(BitVec.ofInt 64 ((word b j : Nat) : Int))).toNat : Int) = _
  rw [BitVec.ofInt_natCast, BitVec.ofInt_natCast, hx, IntKind.wrap_u64]
  omega
theorem cnt_below {m : Nat → Bool} {n : Nat} (h : ∀ i, n ≤ i → m i = false) (k : Nat) : cnt (below m k) n = cnt m k := by
  by_cases hk : k ≤ n
  · obtain ⟨d, rfl⟩ : ∃ d, n = k + d := ⟨n - k, by omega⟩
    exact cnt_cut m k d
  · rw [cnt_off h (i := k) (by omega)]
    exact cnt_congr fun i hi => by unfold below; rw [decide_eq_true (by omega)]; rfl
theorem cnt_bd' {m : Nat → Bool} {n : Nat} (h : ∀ i, n ≤ i → m i = false) (k : Nat) : cnt m k ≤ n := by
  by_cases hk : n ≤ k
  · rw [cnt_off h hk]; exact cnt_le m n
  · have := cnt_le m k; omega
theorem cnt_all {m : Nat → Bool} {n : Nat} (h : ∀ i, n ≤ i → m i = false) : cnt m (64 * nw n) = cnt m n := cnt_off h (by unfold nw; omega)
theorem word_below_yes (m : Nat → Bool) (j : Nat) : word (below m (64 * (j + 1))) j = word m j := num_congr fun k hk => by unfold below; rw [decide_eq_true (by omega)]; rfl
theorem word_below_no (m : Nat → Bool) (j i : Nat) (h : i ≠ j) : word (below m (64 * (j + 1))) i = word (below m (64 * j)) i := num_congr fun k hk => by
  unfold below
  by_cases hi : i < j
  · rw [decide_eq_true (by omega), decide_eq_true (by omega)]
  · rw [decide_eq_false (by omega), decide_eq_false (by omega)]
theorem wds_below (m : Nat → Bool) (j k : Nat) : (wds (below m (64 * j)) k).set j (.int .u64 (word m j : Nat)) = wds (below m (64 * (j + 1))) k := by
  apply List.ext_getElem?
  intro i
  rw [List.getElem?_set]
  by_cases hi : i < k
  · rw [wds_get _ hi, wds_get _ hi, wds_len]
    by_cases e : j = i
    · subst e; simp [hi, word_below_yes]
    · rw [if_neg e, word_below_no m j i (fun h => e h.symm)]
  · rw [List.getElem?_eq_none (by rw [wds_len]; omega), List.getElem?_eq_none (by rw [wds_len]; omega), wds_len]
    split
    · rw [if_neg (by omega)]
    · rfl
theorem wds_congr {m k : Nat → Bool} {n : Nat} (h : ∀ j, j < n → word m j = word k j) : wds m n = wds k n := by
  unfold wds
  exact List.map_congr_left fun j hj => by rw [h j (List.mem_range.1 hj)]
theorem word_below_all (m : Nat → Bool) (k j : Nat) (hj : j < k) : word (below m (64 * k)) j = word m j :=
  num_congr fun i hi => by unfold below; rw [decide_eq_true (by omega), Bool.true_and]
theorem wds_below_all (m : Nat → Bool) (k : Nat) : wds (below m (64 * k)) k = wds m k := wds_congr fun j hj => word_below_all m k j hj
theorem wds_below_zero (m : Nat → Bool) (k : Nat) : wds (below m 0) k = wds (fun _ => false) k := wds_congr fun j _ => by rw [below_zero]
/-- a set under way: its count, its words -/
structure Half (w : World) (S g n : Nat) (c : Nat) (ws : List Value) : Prop where
  hd : w.heap[S]? = some (.cells #[.int .i64 (n : Nat), .int .i64 (c : Nat), .slice (some ⟨g, 0, none⟩) (nw n) (nw n)] 82 (0, 0))
  wd : w.heap[g]? = some (.cells ws.toArray 83 (0, 0))
  len : ws.length = nw n
section
variable {w w' : World} {S g n c : Nat} {ws : List Value}
theorem Half.ne (h : Half w S g n c ws) : S ≠ g := by
  rintro rfl
  have := h.wd
  rw [h.hd] at this
  simp at this
theorem Half.keep (h : Half w S g n c ws) (hb : Below w.heap.size w w') : Half w' S g n c ws :=
  ⟨(hb.block _ (heap_lt h.hd)).trans h.hd, (hb.block _ (heap_lt h.wd)).trans h.wd, h.len⟩
theorem Half.word (h : Half w S g n c ws) (j : Nat) (v : Value) : Half (w.setCell ⟨g, j, none⟩ v) S g n c (ws.set j v) :=
  ⟨heap_else h.hd h.ne v, by rw [heap_set h.wd]; simp, by rw [List.length_set]; exact h.len⟩
theorem Half.count (h : Half w S g n c ws) (d : Nat) : Half (w.setCell ⟨S, 1, none⟩ (.int .i64 (d : Nat))) S g n d ws :=
  ⟨by rw [heap_set h.hd]; rfl, heap_else h.wd h.ne.symm _, h.len⟩
theorem Half.of {m : Nat → Bool} (h : SetAt w S g (nw n) n m) : Half w S g n (cnt m n) (wds m (nw n)) := by
  obtain ⟨cur, h1, h2, h3⟩ := h.ws
  refine ⟨h.hd, ?_, wds_len _ _⟩
  rw [h1, ← h3, List.take_of_length_le (by simp; omega)]
theorem Half.set {m : Nat → Bool} (h : Half w S g n (cnt m n) (wds m (nw n))) (hn : n ≤ 1048576) (hm : ∀ i, n ≤ i → m i = false) : SetAt w S g (nw n) n m :=
  ⟨h.hd, ⟨_, h.wd, by simp [wds_len], by rw [List.toList_toArray, List.take_of_length_le (by rw [wds_len]; omega)]⟩, ⟨Nat.le_refl _, by unfold nw; omega⟩, hm, hn⟩
theorem Half.cell (h : Half w S g n c ws) {j : Nat} {v : Value} (hj : ws[j]? = some v) : w.cell? ⟨g, j, none⟩ = some v ∧ w.frozen? ⟨g, j, none⟩ = false := by
  refine ⟨?_, free_at h.wd _⟩
  rw [cell_at h.wd]
  simpa using hj
end
end Go.Proofs.YtmkbbekeimnajaaDoor
