/- plain: words: their ones, the ranks, the lowest one -/
import Derived.Test.YtmkbbekeimnajaaDoorFm
import Derived.Lib.BitFns
import Derived.Lib.TrailingZeros
namespace Ds
open Go.Lib (popAux onesCount)

theorem cnt_first (f : Nat → Bool) (k : Nat) : cnt f (k + 1) = (if f 0 then 1 else 0) + cnt (fun i => f (i + 1)) k := by
  rw [Nat.add_comm k 1, cnt_add]
  congr 1
  · rw [show (1 : Nat) = 0 + 1 from rfl, cnt_succ]; simp [cnt, mem]
  · exact cnt_congr fun i _ => by rw [Nat.add_comm]
theorem popAux_cnt : ∀ (k x : Nat), popAux k x = cnt x.testBit k
  | 0, x => by simp [popAux, cnt, mem]
  | k + 1, x => by
    rw [popAux, popAux_cnt k (x / 2), cnt_first]
    congr 1
    · rw [Nat.testBit_zero]
      by_cases h : x % 2 = 1
      · rw [h]; simp
      · have : x % 2 = 0 := by omega
        rw [this]; simp
    · exact cnt_congr fun i _ => by rw [Nat.testBit_succ]
theorem ones_num (f : Nat → Bool) : onesCount (num 64 f) = cnt f 64 := by
  rw [onesCount, popAux_cnt]
  exact cnt_congr fun i hi => by rw [num_bit]; simp [hi]
theorem ones_word (m : Nat → Bool) (j : Nat) : onesCount (word m j) = cnt (fun k => m (64 * j + k)) 64 := ones_num _
theorem cnt_words (m : Nat → Bool) (j : Nat) : cnt m (64 * (j + 1)) = cnt m (64 * j) + onesCount (word m j) := by
  rw [ones_word, show 64 * (j + 1) = 64 * j + 64 by omega, cnt_add]
theorem and_low (f : Nat → Bool) (k : Nat) (hk : k ≤ 64) : num 64 f &&& (2 ^ k - 1) = num 64 fun i => decide (i < k) && f i := by
  apply Nat.eq_of_testBit_eq
  intro i
  rw [Nat.testBit_and, num_bit, num_bit, Nat.testBit_two_pow_sub_one]
  by_cases h : i < k
  · have : i < 64 := by omega
    simp [h, this]
  · simp [h]
theorem cnt_cut (f : Nat → Bool) (k : Nat) : ∀ d, cnt (fun i => decide (i < k) && f i) (k + d) = cnt f k
  | 0 => cnt_congr fun i hi => by have : i < k := by omega
                                  simp [this]
  | d + 1 => by
    rw [← Nat.add_assoc, cnt_succ, cnt_cut f k d]
    have : ¬ k + d < k := by omega
    simp [this]
theorem ones_low (m : Nat → Bool) (i : Nat) : cnt m (64 * (i / 64)) + onesCount (word m (i / 64) &&& (2 ^ (i % 64) - 1)) = cnt m i := by
  have hk : i % 64 < 64 := Nat.mod_lt _ (by omega)
  unfold word
  rw [and_low _ _ (by omega), ones_num]
  have e := cnt_cut (fun k => m (64 * (i / 64) + k)) (i % 64) (64 - i % 64)
  rw [show i % 64 + (64 - i % 64) = 64 by omega] at e
  rw [e, ← cnt_add, Nat.div_add_mod]
/-- bits that are cut off below: w >> k << k -/
theorem shr_shl (f : Nat → Bool) (k : Nat) : num 64 f / 2 ^ k * 2 ^ k = num 64 fun i => decide (k ≤ i) && f i := by
  apply num_ext
  · have h := num_lt 64 f
    have : num 64 f / 2 ^ k * 2 ^ k ≤ num 64 f := Nat.div_mul_le_self _ _
    omega
  · intro i hi
    rw [Nat.testBit_mul_two_pow, Nat.testBit_div_two_pow, num_bit]
    by_cases h : k ≤ i
    · have e : i - k + k = i := by omega
      simp [h, e, hi]
    · simp [h]
/-- the lowest one goes -/
theorem drop_low : ∀ (t w : Nat), w.testBit t = true → (∀ j, j < t → w.testBit j = false) → ∀ i, (w &&& (w - 1)).testBit i = (w.testBit i && decide (i ≠ t))
  | 0, w, h, _, i => by
    rw [Nat.testBit_zero] at h
    simp at h
    rw [Nat.testBit_and]
    cases i with
    | zero =>
      rw [Nat.testBit_zero, Nat.testBit_zero]
      have : (w - 1) % 2 = 0 := by omega
      simp [this]
    | succ i =>
      rw [Nat.testBit_succ, Nat.testBit_succ]
      have : (w - 1) / 2 = w / 2 := by omega
      rw [this]
      simp
  | t + 1, w, h, hl, i => by
    have h0 := hl 0 (by omega)
    rw [Nat.testBit_zero] at h0
    simp at h0
    rw [Nat.testBit_succ] at h
    have hw : w / 2 ≠ 0 := by intro e; rw [e] at h; simp at h
    have ih := drop_low t (w / 2) h (fun j hj => by have := hl (j + 1) (by omega); rwa [Nat.testBit_succ] at this)
    rw [Nat.testBit_and]
    cases i with
    | zero =>
      rw [Nat.testBit_zero]
      simp [h0]
    | succ i =>
      have hi := ih i
      rw [Nat.testBit_and] at hi
      rw [Nat.testBit_succ, Nat.testBit_succ]
      have : (w - 1) / 2 = w / 2 - 1 := by omega
      rw [this, hi]
      simp
/-- the members from number r on -/
def from_ (f : Nat → Bool) (r : Nat) : Nat := num 64 fun i => f i && decide (r ≤ cnt f i)
theorem from_zero (f : Nat → Bool) : from_ f 0 = num 64 f := num_congr fun i _ => by simp
theorem from_low {f : Nat → Bool} {r t : Nat} (h : (mem f 64)[r]? = some t) : (from_ f r).testBit t = true ∧ ∀ j, j < t → (from_ f r).testBit j = false := by
  rw [mem_get] at h
  obtain ⟨h1, h2, h3⟩ := h
  refine ⟨?_, fun j hj => ?_⟩
  · unfold from_; rw [num_bit]; simp [h1, h2, h3]
  · unfold from_
    rw [num_bit]
    by_cases hf : f j
    · have h4 := cnt_mono f (a := j + 1) (b := t) (by omega)
      rw [cnt_succ, if_pos hf] at h4
      have : ¬ r ≤ cnt f j := by omega
      simp [this]
    · simp at hf; simp [hf]
theorem from_next {f : Nat → Bool} {r t : Nat} (h : (mem f 64)[r]? = some t) : from_ f r &&& (from_ f r - 1) = from_ f (r + 1) := by
  obtain ⟨h1, h2⟩ := from_low h
  apply Nat.eq_of_testBit_eq
  intro i
  rw [drop_low t _ h1 h2]
  rw [mem_get] at h
  obtain ⟨g1, g2, g3⟩ := h
  unfold from_
  rw [num_bit, num_bit]
  by_cases hi : i < 64
  · by_cases hf : f i
    · by_cases e : i = t
      · subst e; simp [g3]
      · have : (r ≤ cnt f i) = (r + 1 ≤ cnt f i) := propext ⟨fun h => by
          by_cases hlt : i < t
          · have h4 := cnt_mono f (a := i + 1) (b := t) (by omega)
            rw [cnt_succ, if_pos hf] at h4
            omega
          · have h4 := cnt_mono f (a := t + 1) (b := i) (by omega)
            rw [cnt_succ, if_pos g2] at h4
            omega, fun h => by omega⟩
        simp [this, e]
    · simp at hf; simp [hf]
  · simp [hi]
/-- trailing noughts -/
theorem ctzFrom_at : ∀ (k t w : Nat), t < k → w.testBit t = true → (∀ j, j < t → w.testBit j = false) → Go.Lib.ctzFrom k w = t
  | 0, t, w, h, _, _ => by omega
  | k + 1, 0, w, _, h, _ => by
    rw [Nat.testBit_zero] at h
    simp at h
    simp [Go.Lib.ctzFrom, h]
  | k + 1, t + 1, w, hk, h, hl => by
    have h0 := hl 0 (by omega)
    rw [Nat.testBit_zero] at h0
    simp at h0
    rw [Nat.testBit_succ] at h
    have ih := ctzFrom_at k t (w / 2) (by omega) h (fun j hj => by have := hl (j + 1) (by omega); rwa [Nat.testBit_succ] at this)
    simp [Go.Lib.ctzFrom, h0, ih]
    omega
theorem ctz_at (t w : Nat) (ht : t < 64) (h : w.testBit t = true) (hl : ∀ j, j < t → w.testBit j = false) : Go.Lib.ctz 64 w = t := by
  have h0 : w ≠ 0 := by intro e; rw [e] at h; simp at h
  unfold Go.Lib.ctz
  rw [if_neg h0]
  exact ctzFrom_at 64 t w ht h hl
/-- a word that isn't 0 has a lowest one -/
theorem low_of (f : Nat → Bool) (h : num 64 f ≠ 0) : ∃ t, t < 64 ∧ f t = true ∧ (∀ j, j < t → f j = false) ∧ Go.Lib.ctz 64 (num 64 f) = t := by
  have hex : ∃ i, i < 64 ∧ f i = true := by
    by_cases hx : ∃ i, i < 64 ∧ f i = true
    · exact hx
    · exfalso
      apply h
      apply Nat.eq_of_testBit_eq
      intro i
      rw [num_bit, Nat.zero_testBit]
      by_cases hi : i < 64
      · cases hf : f i with
        | false => simp
        | true => exact absurd ⟨i, hi, hf⟩ hx
      · simp [hi]
  have key : ∀ n, n ≤ 64 → (∃ t, t < n ∧ f t = true ∧ ∀ j, j < t → f j = false) ∨ ∀ j, j < n → f j = false := by
    intro n
    induction n with
    | zero => intro _; right; intro j hj; omega
    | succ n ih =>
      intro hn
      rcases ih (by omega) with ⟨t, h1, h2, h3⟩ | h1
      · exact .inl ⟨t, by omega, h2, h3⟩
      · cases hf : f n with
        | true => exact .inl ⟨n, by omega, hf, h1⟩
        | false =>
          right
          intro j hj
          by_cases e : j = n
          · subst e; exact hf
          · exact h1 j (by omega)
  rcases key 64 (Nat.le_refl _) with ⟨t, h1, h2, h3⟩ | h1
  · refine ⟨t, h1, h2, h3, ctz_at t _ h1 ?_ fun j hj => ?_⟩
    · rw [num_bit]; simp [h1, h2]
    · rw [num_bit, h3 j hj]; simp
  · obtain ⟨i, hi, hf⟩ := hex
    rw [h1 i hi] at hf
    cases hf
theorem num_zero {f : Nat → Bool} (h : num 64 f = 0) : ∀ i, i < 64 → f i = false := by
  intro i hi
  have := num_bit 64 f i
  rw [h, Nat.zero_testBit] at this
  simpa [hi] using this.symm
end Ds
