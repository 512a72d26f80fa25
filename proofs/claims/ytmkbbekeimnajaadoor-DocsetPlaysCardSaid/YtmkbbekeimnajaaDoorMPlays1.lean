/- texts of this proof, one behind the other: Fm Wp Pop Oc -/
import Derived.Test.YtmkbbekeimnajaaDoorMPlays0
import Derived.Lib.BitFns
import Derived.Lib.TrailingZeros
import Derived.Laws.Bits64b
/-! Fm: plain: sets of numbers as words of 64 bits; counting, ranks -/
namespace Ds
/-- the number whose bit i is f i, below 2 ^ k -/
def num : Nat → (Nat → Bool) → Nat
  | 0, _ => 0
  | k + 1, f => num k f + if f k then 2 ^ k else 0
theorem num_lt : ∀ (k : Nat) (f : Nat → Bool), num k f < 2 ^ k
  | 0, _ => by simp [num]
  | k + 1, f => by
    have h := num_lt k f
    rw [num, Nat.pow_succ]
    split <;> omega
theorem num_bit : ∀ (k : Nat) (f : Nat → Bool) (i : Nat), (num k f).testBit i = (decide (i < k) && f i)
  | 0, f, i => by simp [num]
  | k + 1, f, i => by
    have h := num_lt k f
    have ih := num_bit k f i
    rw [num]
    split
    · rename_i hf
      have e : num k f + 2 ^ k = 2 ^ k ||| num k f := by
        have := Nat.two_pow_add_eq_or_of_lt h 1
        rw [Nat.mul_one] at this
        omega
      rw [e, Nat.testBit_or, Nat.testBit_two_pow, ih]
      by_cases hi : i = k
      · subst hi; simp [hf]
      · have h1 : (i < k + 1) = (i < k) := propext ⟨fun _ => by omega, fun _ => by omega⟩
        have h2 : decide (k = i) = false := by simp; omega
        simp [h1, h2]
    · rename_i hf
      rw [Nat.add_zero, ih]
      by_cases hi : i = k
      · subst hi; simp at hf; simp [hf]
      · have h1 : (i < k + 1) = (i < k) := propext ⟨fun _ => by omega, fun _ => by omega⟩
        simp [h1]
theorem num_ext {k x : Nat} {f : Nat → Bool} (hx : x < 2 ^ k) (h : ∀ i, i < k → x.testBit i = f i) : x = num k f := by
  apply Nat.eq_of_testBit_eq
  intro i
  rw [num_bit]
  by_cases hi : i < k
  · rw [h i hi]; simp [hi]
  · rw [Nat.testBit_lt_two_pow (Nat.lt_of_lt_of_le hx (Nat.pow_le_pow_right (by omega) (by omega)))]
    simp [hi]
theorem num_congr {k : Nat} {f g : Nat → Bool} (h : ∀ i, i < k → f i = g i) : num k f = num k g :=
  num_ext (num_lt k f) fun i hi => by rw [num_bit, h i hi]; simp [hi]
/-- word j of the set m -/
def word (m : Nat → Bool) (j : Nat) : Nat := num 64 fun k => m (64 * j + k)
theorem word_lt (m : Nat → Bool) (j : Nat) : word m j < 2 ^ 64 := num_lt 64 _
theorem word_bit (m : Nat → Bool) (j k : Nat) : (word m j).testBit k = (decide (k < 64) && m (64 * j + k)) := num_bit 64 _ k
theorem word_has (m : Nat → Bool) (i : Nat) : (word m (i / 64)).testBit (i % 64) = m i := by
  rw [word_bit]
  have : 64 * (i / 64) + i % 64 = i := Nat.div_add_mod i 64
  rw [this]
  simp [Nat.mod_lt]
/-- m with i in, or out -/
def put (m : Nat → Bool) (i : Nat) (b : Bool) : Nat → Bool := fun k => if k = i then b else m k
theorem word_put (m : Nat → Bool) (i : Nat) (b : Bool) (j : Nat) (hj : j ≠ i / 64) : word (put m i b) j = word m j := by
  refine num_congr fun k hk => ?_
  unfold put
  rw [if_neg (fun e => hj (by omega))]
theorem word_add (m : Nat → Bool) (i : Nat) : word m (i / 64) ||| 2 ^ (i % 64) = word (put m i true) (i / 64) := by
  refine num_ext (Nat.or_lt_two_pow (word_lt _ _) (Nat.pow_lt_pow_right (by omega) (by omega))) fun k hk => ?_
  rw [Nat.testBit_or, word_bit, Nat.testBit_two_pow]
  unfold put
  by_cases h : i % 64 = k
  · rw [if_pos (by omega)]; simp [h]
  · rw [if_neg (by omega)]; simp [h, hk]
/-- the members below n, their number -/
def mem (m : Nat → Bool) (n : Nat) : List Nat := (List.range n).filter m
def cnt (m : Nat → Bool) (n : Nat) : Nat := (mem m n).length
theorem mem_succ (m : Nat → Bool) (n : Nat) : mem m (n + 1) = mem m n ++ if m n then [n] else [] := by
  unfold mem
  rw [List.range_succ, List.filter_append]
  by_cases h : m n <;> simp [h]
theorem cnt_succ (m : Nat → Bool) (n : Nat) : cnt m (n + 1) = cnt m n + if m n then 1 else 0 := by
  unfold cnt
  rw [mem_succ, List.length_append]
  by_cases h : m n <;> simp [h]
theorem cnt_le (m : Nat → Bool) : ∀ n, cnt m n ≤ n
  | 0 => by simp [cnt, mem]
  | n + 1 => by rw [cnt_succ]; have := cnt_le m n; split <;> omega
theorem cnt_mono (m : Nat → Bool) {a b : Nat} (h : a ≤ b) : cnt m a ≤ cnt m b := by
  obtain ⟨d, rfl⟩ : ∃ d, b = a + d := ⟨b - a, by omega⟩
  clear h
  induction d with
  | zero => exact Nat.le_refl _
  | succ d ih => rw [show a + (d + 1) = (a + d) + 1 by omega, cnt_succ]; omega
theorem cnt_congr {m k : Nat → Bool} : ∀ {n : Nat}, (∀ i, i < n → m i = k i) → cnt m n = cnt k n
  | 0, _ => rfl
  | n + 1, h => by rw [cnt_succ, cnt_succ, cnt_congr (fun i hi => h i (by omega)), h n (by omega)]
theorem mem_congr {m k : Nat → Bool} : ∀ {n : Nat}, (∀ i, i < n → m i = k i) → mem m n = mem k n
  | 0, _ => rfl
  | n + 1, h => by rw [mem_succ, mem_succ, mem_congr (fun i hi => h i (by omega)), h n (by omega)]
theorem mem_iff {m : Nat → Bool} {n i : Nat} : i ∈ mem m n ↔ i < n ∧ m i = true := by simp [mem]
theorem mem_lt {m : Nat → Bool} {n i : Nat} (h : i ∈ mem m n) : i < n := (mem_iff.1 h).1
theorem cnt_put (m : Nat → Bool) (i : Nat) (b : Bool) : ∀ n, cnt (put m i b) n + (if i < n ∧ m i = true then 1 else 0) = cnt m n + (if i < n ∧ b = true then 1 else 0)
  | 0 => rfl
  | n + 1 => by
    have ih := cnt_put m i b n
    rw [cnt_succ, cnt_succ]
    by_cases e : n = i
    · subst e
      have hk : put m n b n = b := by unfold put; rw [if_pos rfl]
      rw [hk]
      have h1 : ¬ n < n := by omega
      have h2 : n < n + 1 := by omega
      simp only [h1, h2, true_and, false_and, if_false] at ih ⊢
      omega
    · have hk : put m i b n = m n := by unfold put; rw [if_neg e]
      rw [hk]
      have h1 : (i < n + 1) = (i < n) := propext ⟨fun _ => by omega, fun _ => by omega⟩
      simp only [h1]
      omega
/-- the members of a range -/
theorem cnt_add (m : Nat → Bool) (a b : Nat) : cnt m (a + b) = cnt m a + cnt (fun k => m (a + k)) b := by
  induction b with
  | zero => simp [cnt, mem]
  | succ b ih => rw [← Nat.add_assoc, cnt_succ, ih, cnt_succ]; omega
/-- member number k -/
theorem mem_get (m : Nat → Bool) (n k i : Nat) : (mem m n)[k]? = some i ↔ i < n ∧ m i = true ∧ cnt m i = k := by
  induction n generalizing k with
  | zero => simp [mem]
  | succ n ih =>
    rw [mem_succ]
    by_cases hk : k < (mem m n).length
    · rw [List.getElem?_append_left hk, ih]
      constructor
      · rintro ⟨h1, h2⟩; exact ⟨by omega, h2⟩
      · rintro ⟨h1, h2, h3⟩
        refine ⟨?_, h2, h3⟩
        by_cases e : i = n
        · subst e
          have : cnt m i = (mem m i).length := rfl
          omega
        · omega
    · rw [List.getElem?_append_right (by omega)]
      by_cases hm : m n
      · rw [if_pos hm]
        by_cases e : k - (mem m n).length = 0
        · rw [e]
          simp only [List.getElem?_cons_zero, Option.some.injEq]
          constructor
          · rintro rfl; exact ⟨by omega, hm, by have : cnt m n = (mem m n).length := rfl; omega⟩
          · rintro ⟨h1, h2, h3⟩
            by_cases e' : i = n
            · exact e'.symm
            · have h4 := cnt_mono m (a := i + 1) (b := n) (by omega)
              rw [cnt_succ, if_pos h2] at h4
              have : cnt m n = (mem m n).length := rfl
              omega
        · rw [List.getElem?_eq_none (by simp; omega)]
          constructor
          · intro h; cases h
          · rintro ⟨h1, h2, h3⟩
            have h4 := cnt_mono m (a := i) (b := n) (by omega)
            have : cnt m n = (mem m n).length := rfl
            omega
      · rw [if_neg hm]
        simp only [List.getElem?_nil]
        constructor
        · intro h; cases h
        · rintro ⟨h1, h2, h3⟩
          by_cases e' : i = n
          · subst e'; rw [h2] at hm; simp at hm
          · have h4 := cnt_mono m (a := i + 1) (b := n) (by omega)
            rw [cnt_succ, if_pos h2] at h4
            have : cnt m n = (mem m n).length := rfl
            omega
/-- the least member from i on -/
def next (m : Nat → Bool) (n i : Nat) : Option Nat := ((List.range n).drop i).find? m
theorem next_some {m : Nat → Bool} {n i k : Nat} (hi : i ≤ k) (hk : k < n) (hm : m k = true) (h : ∀ j, i ≤ j → j < k → m j = false) : next m n i = some k := by
  have : ∀ d i, k - i = d → i ≤ k → (∀ j, i ≤ j → j < k → m j = false) → ((List.range n).drop i).find? m = some k := by
    intro d
    induction d with
    | zero =>
      intro i hd hi h
      have : i = k := by omega
      subst this
      rw [List.drop_eq_getElem_cons (by simpa using hk)]
      simp [hm]
    | succ d ih =>
      intro i hd hi h
      rw [List.drop_eq_getElem_cons (by simp; omega)]
      simp only [List.getElem_range, List.find?_cons]
      rw [h i (Nat.le_refl _) (by omega)]
      exact ih (i + 1) (by omega) (by omega) (fun j h1 h2 => h j (by omega) h2)
  exact this _ i rfl hi h
theorem next_none {m : Nat → Bool} {n i : Nat} (h : ∀ j, i ≤ j → j < n → m j = false) : next m n i = none := by
  unfold next
  rw [List.find?_eq_none]
  intro x hx
  obtain ⟨k, hk⟩ := List.mem_iff_getElem?.1 hx
  rw [List.getElem?_drop] at hk
  have hl := (List.getElem?_eq_some_iff.1 hk).1
  simp only [List.length_range] at hl
  rw [List.getElem?_range hl] at hk
  simp only [Option.some.injEq] at hk
  rw [h x (by omega) (by omega)]
  simp
/-- the tag of the shortest form -/
def tagOf (w c : Nat) : Nat :=
  if c = 0 then 0 else if c = w then 1
  else if 1 + (w + 7) / 8 < min (2 + c) (2 + w - c) then 4 else if 2 + w - c < 2 + c then 3 else 2
def bitsB (f : Nat → Bool) (w : Nat) : List Nat := (List.range ((w + 7) / 8)).map fun k => num 8 fun i => decide (8 * k + i < w) && f (8 * k + i)
def inv (f : Nat → Bool) : Nat → Bool := fun i => !f i
/-- a block of w numbers -/
def form (f : Nat → Bool) (w : Nat) : List Nat :=
  if tagOf w (cnt f w) = 0 then [0] else if tagOf w (cnt f w) = 1 then [1]
  else if tagOf w (cnt f w) = 2 then 2 :: (cnt f w - 1) :: mem f w
  else if tagOf w (cnt f w) = 3 then 3 :: (w - cnt f w - 1) :: mem (inv f) w
  else 4 :: bitsB f w
theorem cnt_inv (f : Nat → Bool) : ∀ w, cnt (inv f) w = w - cnt f w
  | 0 => by simp [cnt, mem]
  | w + 1 => by
    have := cnt_le f w
    rw [cnt_succ, cnt_succ, cnt_inv f w]
    unfold inv
    by_cases h : f w <;> simp [h] <;> omega
theorem getD_lt {l : List Nat} {i : Nat} (h : i < l.length) : l.getD i 0 = l[i] := by simp [List.getD, h]
theorem getD_ge {l : List Nat} {i : Nat} (h : l.length ≤ i) : l.getD i 0 = 0 := by simp [List.getD, h]
theorem bitsB_len (f : Nat → Bool) (w : Nat) : (bitsB f w).length = (w + 7) / 8 := by simp [bitsB]
theorem form_congr {f g : Nat → Bool} {w : Nat} (h : ∀ i, i < w → f i = g i) : form f w = form g w := by
  have h1 := cnt_congr h
  have h2 := mem_congr h
  have h3 : mem (inv f) w = mem (inv g) w := mem_congr fun i hi => by unfold inv; rw [h i hi]
  have h4 : bitsB f w = bitsB g w := by
    unfold bitsB
    refine List.map_congr_left fun k _ => num_congr fun i _ => ?_
    by_cases e : 8 * k + i < w
    · rw [h _ e]
    · simp [e]
  unfold form
  rw [h1, h2, h3, h4]
theorem tagOf_cases (w c : Nat) : (tagOf w c = 0 ∧ c = 0) ∨ (tagOf w c = 1 ∧ c ≠ 0 ∧ c = w) ∨ (tagOf w c = 2 ∧ c ≠ 0 ∧ c ≠ w ∧ 2 + c ≤ 2 + w - c ∧ 2 + c ≤ 1 + (w + 7) / 8) ∨
    (tagOf w c = 3 ∧ c ≠ 0 ∧ c ≠ w ∧ 2 + w - c < 2 + c ∧ 2 + w - c ≤ 1 + (w + 7) / 8) ∨ (tagOf w c = 4 ∧ c ≠ 0 ∧ c ≠ w ∧ 1 + (w + 7) / 8 < 2 + c ∧ 1 + (w + 7) / 8 < 2 + w - c) := by
  unfold tagOf
  by_cases h0 : c = 0
  · exact .inl ⟨by rw [if_pos h0], h0⟩
  · by_cases h1 : c = w
    · exact .inr (.inl ⟨by rw [if_neg h0, if_pos h1], h0, h1⟩)
    · by_cases h2 : 1 + (w + 7) / 8 < min (2 + c) (2 + w - c)
      · exact .inr (.inr (.inr (.inr ⟨by rw [if_neg h0, if_neg h1, if_pos h2], h0, h1, by omega, by omega⟩)))
      · by_cases h3 : 2 + w - c < 2 + c
        · exact .inr (.inr (.inr (.inl ⟨by rw [if_neg h0, if_neg h1, if_neg h2, if_pos h3], h0, h1, h3, by omega⟩)))
        · exact .inr (.inr (.inl ⟨by rw [if_neg h0, if_neg h1, if_neg h2, if_neg h3], h0, h1, by omega, by omega⟩))
theorem form_len (f : Nat → Bool) (w : Nat) (hw : w ≤ 256) : 1 ≤ (form f w).length ∧ (form f w).length ≤ 33 := by
  have hc := cnt_le f w
  have l1 : (mem f w).length = cnt f w := rfl
  have l2 : (mem (inv f) w).length = w - cnt f w := cnt_inv f w
  unfold form
  rcases tagOf_cases w (cnt f w) with ⟨e, _⟩ | ⟨e, _⟩ | ⟨e, h1, h2, h3, h4⟩ | ⟨e, h1, h2, h3, h4⟩ | ⟨e, h1, h2, h3, h4⟩ <;> rw [e]
  · simp
  · simp
  · simp [l1]; omega
  · simp [l2]; omega
  · simp [bitsB_len]; omega
theorem num8_lt (f : Nat → Bool) : num 8 f < 256 := num_lt 8 f
theorem form_lt (f : Nat → Bool) (w : Nat) (hw : w ≤ 256) : ∀ x ∈ form f w, x < 256 := by
  have hc := cnt_le f w
  unfold form
  intro x hx
  split at hx
  · simp at hx; omega
  · split at hx
    · simp at hx; omega
    · split at hx
      · simp only [List.mem_cons] at hx
        rcases hx with rfl | rfl | hx
        · omega
        · rename_i h0 h1 h2
          have e1 : cnt f w ≠ 0 := by intro e; apply h0; unfold tagOf; simp [e]
          omega
        · have := mem_lt hx; omega
      · split at hx
        · simp only [List.mem_cons] at hx
          rcases hx with rfl | rfl | hx
          · omega
          · rename_i h0 h1 h2 h3
            have e1 : cnt f w ≠ 0 := by intro e; apply h0; unfold tagOf; simp [e]
            omega
          · have := mem_lt hx; omega
        · simp only [List.mem_cons] at hx
          rcases hx with rfl | hx
          · omega
          · simp only [bitsB, List.mem_map] at hx
            obtain ⟨k, _, rfl⟩ := hx
            exact num8_lt _
/-- rising, and all below w -/
def rising (w : Nat) (ps : List Nat) : Prop := (∀ x ∈ ps, x < w) ∧ ∀ (k : Nat) (x y : Nat), ps[k]? = some x → ps[k + 1]? = some y → x < y
def has (ps : List Nat) : Nat → Bool := fun i => ps.contains i
theorem rising_mem (f : Nat → Bool) : ∀ w, rising w (mem f w)
  | w => ⟨fun x hx => mem_lt hx, fun k x y hx hy => by
    rw [mem_get] at hx hy
    by_cases h : x < y
    · exact h
    · have := cnt_mono f (a := y) (b := x) (by omega)
      omega⟩
theorem rising_lt {w : Nat} {ps : List Nat} (h : rising w ps) : ∀ (d i x y : Nat), ps[i]? = some x → ps[i + d + 1]? = some y → x < y
  | 0, i, x, y, hx, hy => h.2 i x y hx hy
  | d + 1, i, x, y, hx, hy => by
    have hl := (List.getElem?_eq_some_iff.1 hy).1
    have hz : ps[i + d + 1]? = some ps[i + d + 1] := List.getElem?_eq_getElem (by omega)
    have h1 := rising_lt h d i x _ hx hz
    have h2 := h.2 (i + d + 1) _ y hz (by rw [show i + d + 1 + 1 = i + (d + 1) + 1 by omega]; exact hy)
    omega
theorem rising_snoc {w x : Nat} {ps : List Nat} (h : rising w (ps ++ [x])) : rising x ps ∧ x < w := by
  have hx : (ps ++ [x])[ps.length]? = some x := by simp
  refine ⟨⟨fun y hy => ?_, fun k a b ha hb => ?_⟩, h.1 x (by simp)⟩
  · obtain ⟨k, hk⟩ := List.mem_iff_getElem?.1 hy
    have hl := (List.getElem?_eq_some_iff.1 hk).1
    refine rising_lt h (ps.length - k - 1) k y x ?_ ?_
    · rw [List.getElem?_append_left hl]; exact hk
    · rw [show k + (ps.length - k - 1) + 1 = ps.length by omega]; exact hx
  · have la := (List.getElem?_eq_some_iff.1 ha).1
    have lb := (List.getElem?_eq_some_iff.1 hb).1
    exact h.2 k a b (by rw [List.getElem?_append_left la]; exact ha) (by rw [List.getElem?_append_left lb]; exact hb)
theorem mem_has {w : Nat} {ps : List Nat} (h : rising w ps) : mem (has ps) w = ps := by
  have key : ∀ (n : Nat) (ps : List Nat), ps.length = n → ∀ w, rising w ps → mem (has ps) w = ps := by
    intro n
    induction n with
    | zero =>
      intro ps hn w _
      rw [List.eq_nil_of_length_eq_zero hn]
      simp [mem, has]
    | succ n ih =>
      intro ps hn w h
      obtain ⟨qs, x, rfl⟩ : ∃ qs x, ps = qs ++ [x] := by
        rcases List.eq_nil_or_concat ps with rfl | ⟨qs, x, rfl⟩
        · simp at hn
        · exact ⟨qs, x, by simp⟩
      obtain ⟨h1, h2⟩ := rising_snoc h
      have hq := ih qs (by simpa using hn) x h1
      have e1 : mem (has (qs ++ [x])) (x + 1) = qs ++ [x] := by
        rw [mem_succ, if_pos (by simp [has])]
        congr 1
        refine Eq.trans (mem_congr fun i hi => ?_) hq
        simp only [has, List.contains_eq_mem, List.mem_append, List.mem_singleton]
        congr 1
        exact propext ⟨fun h => h.elim id (fun e => by omega), .inl⟩
      obtain ⟨d, rfl⟩ : ∃ d, w = (x + 1) + d := ⟨w - (x + 1), by omega⟩
      clear h h2
      induction d with
      | zero => exact e1
      | succ d ihd =>
        rw [show x + 1 + (d + 1) = (x + 1 + d) + 1 by omega, mem_succ, ihd, if_neg, List.append_nil]
        simp only [has, List.contains_eq_mem, List.mem_append, List.mem_singleton, decide_eq_true_eq]
        rintro (hm | hm)
        · have := h1.1 _ hm; omega
        · omega
  exact key ps.length ps rfl w h
theorem has_mem (f : Nat → Bool) (w i : Nat) (hi : i < w) : has (mem f w) i = f i := by
  simp only [has, List.contains_eq_mem]
  rw [Bool.eq_iff_iff]
  simp [mem_iff, hi]
/-- the bits of bytes -/
def bitAt (r : List Nat) : Nat → Bool := fun i => (r.getD (i / 8) 0).testBit (i % 8)
theorem bitAt_bitsB (f : Nat → Bool) (w i : Nat) (r : List Nat) (hi : i < w) : bitAt (bitsB f w ++ r) i = f i := by
  unfold bitAt
  have hk : i / 8 < (w + 7) / 8 := by omega
  rw [getD_lt (by rw [List.length_append, bitsB_len]; omega), List.getElem_append_left (by rw [bitsB_len]; exact hk)]
  simp only [bitsB, List.getElem_map, List.getElem_range]
  rw [num_bit]
  have e : 8 * (i / 8) + i % 8 = i := Nat.div_add_mod i 8
  rw [e]
  simp [hi, Nat.mod_lt]
theorem bitAt_high (f : Nat → Bool) (w i : Nat) (hi : w ≤ i) : bitAt (bitsB f w) i = false := by
  unfold bitAt
  by_cases hk : i / 8 < (w + 7) / 8
  · rw [getD_lt (by rw [bitsB_len]; exact hk)]
    simp only [bitsB, List.getElem_map, List.getElem_range]
    rw [num_bit]
    have e : 8 * (i / 8) + i % 8 = i := Nat.div_add_mod i 8
    rw [e]
    have : ¬ i < w := by omega
    simp [this]
  · rw [getD_ge (by rw [bitsB_len]; omega)]
    simp
theorem bitsB_bitAt (w : Nat) (r : List Nat) (hl : r.length = (w + 7) / 8) (hx : ∀ x ∈ r, x < 256) (hh : ∀ i, w ≤ i → i < 256 → bitAt r i = false) (hw : w ≤ 256) : bitsB (bitAt r) w = r := by
  apply List.ext_getElem?
  intro k
  by_cases hk : k < (w + 7) / 8
  · have hkr : k < r.length := by omega
    simp only [bitsB, List.getElem?_map, List.getElem?_range hk, Option.map_some, List.getElem?_eq_getElem hkr, Option.some.injEq]
    refine (num_ext (hx _ (List.getElem_mem hkr)) fun i hi => ?_).symm
    have e1 : (8 * k + i) / 8 = k := by omega
    have e2 : (8 * k + i) % 8 = i := by omega
    have e3 : bitAt r (8 * k + i) = (r[k]).testBit i := by
      unfold bitAt
      rw [e1, e2, getD_lt hkr]
    by_cases h : 8 * k + i < w
    · simp [h, e3]
    · have := hh (8 * k + i) (by omega) (by omega)
      rw [e3] at this
      simp [h, this]
  · rw [List.getElem?_eq_none (by rw [bitsB_len]; omega), List.getElem?_eq_none (by omega)]
/-- THE STRICT READING of a block: the members, and what is left -/
inductive Took (w : Nat) : List Nat → (Nat → Bool) → List Nat → Prop where
  | none (r : List Nat) : Took w (0 :: r) (fun _ => false) r
  | all (r : List Nat) : Took w (1 :: r) (fun _ => true) r
  | list (k : Nat) (ps r : List Nat) : ps.length = k + 1 → rising w ps → tagOf w (cnt (has ps) w) = 2 → Took w (2 :: k :: (ps ++ r)) (has ps) r
  | hole (k : Nat) (ps r : List Nat) : ps.length = k + 1 → rising w ps → tagOf w (cnt (inv (has ps)) w) = 3 → Took w (3 :: k :: (ps ++ r)) (inv (has ps)) r
  | bits (ps r : List Nat) : ps.length = (w + 7) / 8 → (∀ x ∈ ps, x < 256) → (∀ i, w ≤ i → i < 256 → bitAt ps i = false) → tagOf w (cnt (bitAt ps) w) = 4 → Took w (4 :: (ps ++ r)) (bitAt ps) r
theorem cnt_false (w : Nat) : cnt (fun _ => false) w = 0 := by simp [cnt, mem]
theorem cnt_true : ∀ w : Nat, cnt (fun _ => true) w = w
  | 0 => rfl
  | w + 1 => by rw [cnt_succ, cnt_true w]; rfl
theorem took_form {w : Nat} (hw : 0 < w) (hw2 : w ≤ 256) {b r : List Nat} {f : Nat → Bool} (h : Took w b f r) : b = form f w ++ r := by
  cases h with
  | none => unfold form; rw [cnt_false]; simp [tagOf]
  | all =>
    unfold form
    rw [cnt_true]
    have e : tagOf w w = 1 := by unfold tagOf; rw [if_neg (by omega), if_pos rfl]
    rw [e]
    simp
  | list k ps r h1 h2 h3 =>
    unfold form
    rw [h3]
    have hm := mem_has h2
    have hc : cnt (has ps) w = k + 1 := by unfold cnt; rw [hm]; exact h1
    rw [hc, hm]
    simp
  | hole k ps r h1 h2 h3 =>
    unfold form
    rw [h3]
    have hii : inv (inv (has ps)) = has ps := by funext i; simp [inv]
    have hm := mem_has h2
    have hc : w - cnt (inv (has ps)) w = k + 1 := by rw [← cnt_inv, hii]; unfold cnt; rw [hm]; exact h1
    rw [hc, hii, hm]
    simp
  | bits ps r h1 h2 h3 h4 =>
    unfold form
    rw [h4, bitsB_bitAt w ps h1 h2 h3 hw2]
    simp
theorem took_of_form {w : Nat} (hw : 0 < w) (hw2 : w ≤ 256) (f : Nat → Bool) (r : List Nat) : ∃ g, (∀ i, i < w → g i = f i) ∧ Took w (form f w ++ r) g r := by
  have hc := cnt_le f w
  unfold form
  split
  · rename_i h0
    have : cnt f w = 0 := by
      unfold tagOf at h0
      split at h0
      · assumption
      · split at h0
        · cases h0
        · split at h0
          · cases h0
          · split at h0 <;> cases h0
    refine ⟨fun _ => false, fun i hi => ?_, .none r⟩
    by_cases hf : f i
    · have h1 := cnt_mono f (a := i + 1) (b := w) (by omega)
      rw [cnt_succ, if_pos hf] at h1
      omega
    · simp at hf; exact hf.symm
  · split
    · rename_i h0 h1
      have : cnt f w = w := by
        unfold tagOf at h1
        split at h1
        · cases h1
        · split at h1
          · assumption
          · split at h1
            · cases h1
            · split at h1 <;> cases h1
      refine ⟨fun _ => true, fun i hi => ?_, .all r⟩
      by_cases hf : f i
      · exact hf.symm
      · have hi1 := cnt_inv f w
        have h2 := cnt_mono (inv f) (a := i + 1) (b := w) (by omega)
        rw [cnt_succ, if_pos (by unfold inv; simp [hf])] at h2
        omega
    · split
      · rename_i h0 h1 h2
        have e1 : cnt f w ≠ 0 := by intro e; apply h0; unfold tagOf; simp [e]
        have hl : (mem f w).length = cnt f w - 1 + 1 := by have : (mem f w).length = cnt f w := rfl; omega
        refine ⟨has (mem f w), fun i hi => has_mem f w i hi, ?_⟩
        rw [List.cons_append, List.cons_append]
        exact .list _ _ r hl (rising_mem f w) (by rw [cnt_congr (fun i hi => has_mem f w i hi)]; exact h2)
      · split
        · rename_i h0 h1 h2 h3
          have e1 : cnt f w ≠ w := by
            intro e
            apply h1
            unfold tagOf
            rw [if_neg (by omega), if_pos e]
          have hl : (mem (inv f) w).length = w - cnt f w - 1 + 1 := by have : (mem (inv f) w).length = w - cnt f w := cnt_inv f w; omega
          have hg : ∀ i, i < w → inv (has (mem (inv f) w)) i = f i := fun i hi => by
            unfold inv
            rw [has_mem (fun i => !f i) w i hi]
            simp
          refine ⟨inv (has (mem (inv f) w)), hg, ?_⟩
          rw [List.cons_append, List.cons_append]
          exact .hole _ _ r hl (rising_mem (inv f) w) (by rw [cnt_congr hg]; exact h3)
        · rename_i h0 h1 h2 h3
          have h4 : tagOf w (cnt f w) = 4 := by
            unfold tagOf at *
            split
            · rename_i e; simp [e] at h0
            · rename_i e
              rw [if_neg e] at h0 h1 h2 h3
              split
              · rename_i e2; rw [if_pos e2] at h1; exact absurd rfl h1
              · rename_i e2
                rw [if_neg e2] at h0 h1 h2 h3
                split
                · rfl
                · rename_i e3
                  rw [if_neg e3] at h2 h3
                  split
                  · rename_i e4; rw [if_pos e4] at h3; exact absurd rfl h3
                  · rename_i e4; rw [if_neg e4] at h2; exact absurd rfl h2
          have hg : ∀ i, i < w → bitAt (bitsB f w) i = f i := fun i hi => by
            have := bitAt_bitsB f w i [] hi
            rwa [List.append_nil] at this
          refine ⟨bitAt (bitsB f w), hg, ?_⟩
          rw [List.cons_append]
          refine .bits _ r (bitsB_len f w) (fun x hx => ?_) (fun i hi _ => bitAt_high f w i hi) (by rw [cnt_congr hg]; exact h4)
          simp only [bitsB, List.mem_map] at hx
          obtain ⟨k, _, rfl⟩ := hx
          exact num8_lt _
theorem took_unique {w : Nat} {b r s : List Nat} {f g : Nat → Bool} (h : Took w b f r) (k : Took w b g s) : f = g ∧ r = s := by
  cases h with
  | none => cases k; exact ⟨rfl, rfl⟩
  | all => cases k; exact ⟨rfl, rfl⟩
  | list k1 ps r h1 h2 h3 =>
    generalize hb : 2 :: k1 :: (ps ++ r) = b at k
    cases k with
    | none => simp at hb
    | all => simp at hb
    | list k2 qs s g1 g2 g3 =>
      simp only [List.cons.injEq, true_and] at hb
      obtain ⟨rfl, hb⟩ := hb
      obtain ⟨rfl, rfl⟩ := List.append_inj hb (by omega)
      exact ⟨rfl, rfl⟩
    | hole => simp at hb
    | bits => simp at hb
  | hole k1 ps r h1 h2 h3 =>
    generalize hb : 3 :: k1 :: (ps ++ r) = b at k
    cases k with
    | none => simp at hb
    | all => simp at hb
    | list => simp at hb
    | hole k2 qs s g1 g2 g3 =>
      simp only [List.cons.injEq, true_and] at hb
      obtain ⟨rfl, hb⟩ := hb
      obtain ⟨rfl, rfl⟩ := List.append_inj hb (by omega)
      exact ⟨rfl, rfl⟩
    | bits => simp at hb
  | bits ps r h1 h2 h3 h4 =>
    generalize hb : 4 :: (ps ++ r) = b at k
    cases k with
    | none => simp at hb
    | all => simp at hb
    | list => simp at hb
    | hole => simp at hb
    | bits qs s g1 g2 g3 g4 =>
      simp only [List.cons.injEq, true_and] at hb
      obtain ⟨rfl, rfl⟩ := List.append_inj hb (by omega)
      exact ⟨rfl, rfl⟩
/-! the whole form, block by block -/
/-- how many numbers block j has -/
def wid (n j : Nat) : Nat := min 256 (n - 256 * j)
def nb (n : Nat) : Nat := (n + 255) / 256
theorem nb_lt {n j : Nat} : j < nb n ↔ 256 * j < n := by unfold nb; omega
theorem wid_pos {n j : Nat} (h : j < nb n) : 0 < wid n j := by have := nb_lt.1 h; unfold wid; omega
theorem wid_le (n j : Nat) : wid n j ≤ 256 := by unfold wid; omega
def blk (m : Nat → Bool) (j : Nat) : Nat → Bool := fun i => m (256 * j + i)
def encB (n : Nat) (m : Nat → Bool) (j : Nat) : List Nat := form (blk m j) (wid n j)
def body (n : Nat) (m : Nat → Bool) (j : Nat) : List Nat := (List.range j).flatMap (encB n m)
theorem body_zero (n : Nat) (m : Nat → Bool) : body n m 0 = [] := rfl
theorem body_succ (n : Nat) (m : Nat → Bool) (j : Nat) : body n m (j + 1) = body n m j ++ encB n m j := by
  simp [body, List.range_succ]
theorem encB_congr {n : Nat} {m k : Nat → Bool} {j : Nat} (h : ∀ i, i < n → 256 * j ≤ i → i < 256 * (j + 1) → m i = k i) : encB n m j = encB n k j := by
  refine form_congr fun i hi => ?_
  unfold wid at hi
  exact h (256 * j + i) (by omega) (by omega) (by omega)
theorem body_congr {n : Nat} {m k : Nat → Bool} : ∀ {j : Nat}, (∀ i, i < n → i < 256 * j → m i = k i) → body n m j = body n k j
  | 0, _ => rfl
  | j + 1, h => by
    rw [body_succ, body_succ, body_congr (fun i h1 h2 => h i h1 (by omega)), encB_congr (fun i h1 _ h3 => h i h1 h3)]
theorem body_len (n : Nat) (m : Nat → Bool) : ∀ j, j ≤ (body n m j).length ∧ (body n m j).length ≤ 33 * j
  | 0 => by simp [body]
  | j + 1 => by
    have h1 := body_len n m j
    have h2 := form_len (blk m j) (wid n j) (wid_le n j)
    rw [body_succ, List.length_append]
    unfold encB
    omega
theorem body_lt (n : Nat) (m : Nat → Bool) (j : Nat) : ∀ x ∈ body n m j, x < 256 := by
  intro x hx
  simp only [body, List.mem_flatMap] at hx
  obtain ⟨k, _, hx⟩ := hx
  exact form_lt _ _ (wid_le n k) x hx
/-- two readings of the same bytes agree -/
theorem body_unique (n : Nat) (m k : Nat → Bool) : ∀ (j : Nat) (r s : List Nat), j ≤ nb n → body n m j ++ r = body n k j ++ s → (∀ i, i < n → i < 256 * j → m i = k i) ∧ r = s
  | 0, r, s, _, h => ⟨fun i _ hi => absurd hi (by omega), by simpa [body] using h⟩
  | j + 1, r, s, hj, h => by
    rw [body_succ, body_succ, List.append_assoc, List.append_assoc] at h
    obtain ⟨h1, h2⟩ := body_unique n m k j _ _ (by omega) h
    have hw := wid_pos (n := n) (j := j) (by omega)
    unfold encB at h2
    obtain ⟨f, hf, tf⟩ := took_of_form hw (wid_le n j) (blk m j) r
    obtain ⟨g, hg, tg⟩ := took_of_form hw (wid_le n j) (blk k j) s
    rw [h2] at tf
    obtain ⟨e1, e2⟩ := took_unique tf tg
    subst e1
    refine ⟨fun i hi hlt => ?_, e2⟩
    by_cases hl : i < 256 * j
    · exact h1 i hi hl
    · have hiw : i - 256 * j < wid n j := by unfold wid; omega
      have ha := hf _ hiw
      have hb := hg _ hiw
      unfold blk at ha hb
      rw [show 256 * j + (i - 256 * j) = i by omega] at ha hb
      rw [← ha, ← hb]
/-- a block more is read -/
def setB (m : Nat → Bool) (n j : Nat) (f : Nat → Bool) : Nat → Bool := fun i => if 256 * j ≤ i ∧ i < 256 * j + wid n j then f (i - 256 * j) else m i
theorem body_read {n : Nat} {m : Nat → Bool} {j : Nat} {r r' b : List Nat} {f : Nat → Bool} (hj : j < nb n) (h : b = body n m j ++ r) (ht : Took (wid n j) r f r') : b = body n (setB m n j f) (j + 1) ++ r' := by
  have hw := wid_pos hj
  rw [h, took_form hw (wid_le n j) ht, body_succ, List.append_assoc]
  have e1 : body n (setB m n j f) j = body n m j := body_congr fun i _ hi => by unfold setB; rw [if_neg (by omega)]
  have e2 : encB n (setB m n j f) j = form f (wid n j) := form_congr fun i hi => by
    unfold blk setB
    rw [if_pos (by omega), show 256 * j + i - 256 * j = i by omega]
  rw [e1, e2]
/-- where no block can be read, the bytes are no set's -/
theorem body_stuck {n : Nat} {m : Nat → Bool} {j : Nat} {r b : List Nat} (hj : j < nb n) (h : b = body n m j ++ r) (ht : ∀ f r', ¬ Took (wid n j) r f r') : ∀ k, b ≠ body n k (nb n) := by
  intro k hk
  have split : ∀ d, nb n - j = d + 1 → ∃ s, body n k (nb n) = body n k j ++ (encB n k j ++ s) := by
    intro d hd
    have gen : ∀ d, ∃ s, body n k (j + 1 + d) = body n k j ++ (encB n k j ++ s) := by
      intro d
      induction d with
      | zero => exact ⟨[], by rw [Nat.add_zero, body_succ, List.append_nil]⟩
      | succ d ih =>
        obtain ⟨s, hs⟩ := ih
        refine ⟨s ++ encB n k (j + 1 + d), ?_⟩
        rw [show j + 1 + (d + 1) = (j + 1 + d) + 1 by omega, body_succ, hs]
        simp [List.append_assoc]
    have := gen d
    rwa [show j + 1 + d = nb n by omega] at this
  obtain ⟨s, hs⟩ := split (nb n - j - 1) (by omega)
  rw [h, hs] at hk
  obtain ⟨_, h2⟩ := body_unique n m k j _ _ (by omega) hk
  obtain ⟨f, _, tf⟩ := took_of_form (wid_pos hj) (wid_le n j) (blk k j) s
  unfold encB at h2
  rw [← h2] at tf
  exact ht f s tf
/-- where bytes are left behind the last block, they are no set's -/
theorem body_left {n : Nat} {m : Nat → Bool} {r b : List Nat} (h : b = body n m (nb n) ++ r) (hr : r ≠ []) : ∀ k, b ≠ body n k (nb n) := by
  intro k hk
  have h2 := body_unique n m k (nb n) r [] (Nat.le_refl _) (by rw [← h, hk, List.append_nil])
  exact hr h2.2
end Ds

/-! Wp: plain: words: their ones, the ranks, the lowest one -/
namespace Ds
open Go.Lib (popAux onesCount)

theorem cnt_first (f : Nat → Bool) (k : Nat) : cnt f (k + 1) = (if f 0 then 1 else 0) + cnt (fun i => f (i + 1)) k := by
  rw [Nat.add_comm k 1, cnt_add]
  congr 1
  · rw [show (1 : Nat) = 0 + 1 from rfl, cnt_succ]; simp [cnt, mem]
  · exact cnt_congr fun i _ => by rw [Nat.add_comm]
theorem popAux_cnt : ∀ (k x : Nat), popAux k x = cnt x.testBit k
  | 0, x => by simp [popAux, cnt, mem]
  | k + 1, x => by
    rw [popAux, popAux_cnt k (x / 2), cnt_first]
    congr 1
    · rw [Nat.testBit_zero]
      by_cases h : x % 2 = 1
      · rw [h]; simp
      · have : x % 2 = 0 := by omega
        rw [this]; simp
    · exact cnt_congr fun i _ => by rw [Nat.testBit_succ]
theorem ones_num (f : Nat → Bool) : onesCount (num 64 f) = cnt f 64 := by
  rw [onesCount, popAux_cnt]
  exact cnt_congr fun i hi => by rw [num_bit]; simp [hi]
theorem ones_word (m : Nat → Bool) (j : Nat) : onesCount (word m j) = cnt (fun k => m (64 * j + k)) 64 := ones_num _
theorem cnt_words (m : Nat → Bool) (j : Nat) : cnt m (64 * (j + 1)) = cnt m (64 * j) + onesCount (word m j) := by
  rw [ones_word, show 64 * (j + 1) = 64 * j + 64 by omega, cnt_add]
theorem and_low (f : Nat → Bool) (k : Nat) (hk : k ≤ 64) : num 64 f &&& (2 ^ k - 1) = num 64 fun i => decide (i < k) && f i := by
  apply Nat.eq_of_testBit_eq
  intro i
  rw [Nat.testBit_and, num_bit, num_bit, Nat.testBit_two_pow_sub_one]
  by_cases h : i < k
  · have : i < 64 := by omega
    simp [h, this]
  · simp [h]
theorem cnt_cut (f : Nat → Bool) (k : Nat) : ∀ d, cnt (fun i => decide (i < k) && f i) (k + d) = cnt f k
  | 0 => cnt_congr fun i hi => by have : i < k := by omega
                                  simp [this]
  | d + 1 => by
    rw [← Nat.add_assoc, cnt_succ, cnt_cut f k d]
    have : ¬ k + d < k := by omega
    simp [this]
theorem ones_low (m : Nat → Bool) (i : Nat) : cnt m (64 * (i / 64)) + onesCount (word m (i / 64) &&& (2 ^ (i % 64) - 1)) = cnt m i := by
  have hk : i % 64 < 64 := Nat.mod_lt _ (by omega)
  unfold word
  rw [and_low _ _ (by omega), ones_num]
  have e := cnt_cut (fun k => m (64 * (i / 64) + k)) (i % 64) (64 - i % 64)
  rw [show i % 64 + (64 - i % 64) = 64 by omega] at e
  rw [e, ← cnt_add, Nat.div_add_mod]
/-- bits that are cut off below: w >> k << k -/
theorem shr_shl (f : Nat → Bool) (k : Nat) : num 64 f / 2 ^ k * 2 ^ k = num 64 fun i => decide (k ≤ i) && f i := by
  apply num_ext
  · have h := num_lt 64 f
    have : num 64 f / 2 ^ k * 2 ^ k ≤ num 64 f := Nat.div_mul_le_self _ _
    omega
  · intro i hi
    rw [Nat.testBit_mul_two_pow, Nat.testBit_div_two_pow, num_bit]
    by_cases h : k ≤ i
    · have e : i - k + k = i := by omega
      simp [h, e, hi]
    · simp [h]
/-- the lowest one goes -/
theorem drop_low : ∀ (t w : Nat), w.testBit t = true → (∀ j, j < t → w.testBit j = false) → ∀ i, (w &&& (w - 1)).testBit i = (w.testBit i && decide (i ≠ t))
  | 0, w, h, _, i => by
    rw [Nat.testBit_zero] at h
    simp at h
    rw [Nat.testBit_and]
    cases i with
    | zero =>
      rw [Nat.testBit_zero, Nat.testBit_zero]
      have : (w - 1) % 2 = 0 := by omega
      simp [this]
    | succ i =>
      rw [Nat.testBit_succ, Nat.testBit_succ]
      have : (w - 1) / 2 = w / 2 := by omega
      rw [this]
      simp
  | t + 1, w, h, hl, i => by
    have h0 := hl 0 (by omega)
    rw [Nat.testBit_zero] at h0
    simp at h0
    rw [Nat.testBit_succ] at h
    have hw : w / 2 ≠ 0 := by intro e; rw [e] at h; simp at h
    have ih := drop_low t (w / 2) h (fun j hj => by have := hl (j + 1) (by omega); rwa [Nat.testBit_succ] at this)
    rw [Nat.testBit_and]
    cases i with
    | zero =>
      rw [Nat.testBit_zero]
      simp [h0]
    | succ i =>
      have hi := ih i
      rw [Nat.testBit_and] at hi
      rw [Nat.testBit_succ, Nat.testBit_succ]
      have : (w - 1) / 2 = w / 2 - 1 := by omega
      rw [this, hi]
      simp
/-- the members from number r on -/
def from_ (f : Nat → Bool) (r : Nat) : Nat := num 64 fun i => f i && decide (r ≤ cnt f i)
theorem from_zero (f : Nat → Bool) : from_ f 0 = num 64 f := num_congr fun i _ => by simp
theorem from_low {f : Nat → Bool} {r t : Nat} (h : (mem f 64)[r]? = some t) : (from_ f r).testBit t = true ∧ ∀ j, j < t → (from_ f r).testBit j = false := by
  rw [mem_get] at h
  obtain ⟨h1, h2, h3⟩ := h
  refine ⟨?_, fun j hj => ?_⟩
  · unfold from_; rw [num_bit]; simp [h1, h2, h3]
  · unfold from_
    rw [num_bit]
    by_cases hf : f j
    · have h4 := cnt_mono f (a := j + 1) (b := t) (by omega)
      rw [cnt_succ, if_pos hf] at h4
      have : ¬ r ≤ cnt f j := by omega
      simp [this]
    · simp at hf; simp [hf]
theorem from_next {f : Nat → Bool} {r t : Nat} (h : (mem f 64)[r]? = some t) : from_ f r &&& (from_ f r - 1) = from_ f (r + 1) := by
  obtain ⟨h1, h2⟩ := from_low h
  apply Nat.eq_of_testBit_eq
  intro i
  rw [drop_low t _ h1 h2]
  rw [mem_get] at h
  obtain ⟨g1, g2, g3⟩ := h
  unfold from_
  rw [num_bit, num_bit]
  by_cases hi : i < 64
  · by_cases hf : f i
    · by_cases e : i = t
      · subst e; simp [g3]
      · have : (r ≤ cnt f i) = (r + 1 ≤ cnt f i) := propext ⟨fun h => by
          by_cases hlt : i < t
          · have h4 := cnt_mono f (a := i + 1) (b := t) (by omega)
            rw [cnt_succ, if_pos hf] at h4
            omega
          · have h4 := cnt_mono f (a := t + 1) (b := i) (by omega)
            rw [cnt_succ, if_pos g2] at h4
            omega, fun h => by omega⟩
        simp [this, e]
    · simp at hf; simp [hf]
  · simp [hi]
/-- trailing noughts -/
theorem ctzFrom_at : ∀ (k t w : Nat), t < k → w.testBit t = true → (∀ j, j < t → w.testBit j = false) → Go.Lib.ctzFrom k w = t
  | 0, t, w, h, _, _ => by omega
  | k + 1, 0, w, _, h, _ => by
    rw [Nat.testBit_zero] at h
    simp at h
    simp [Go.Lib.ctzFrom, h]
  | k + 1, t + 1, w, hk, h, hl => by
    have h0 := hl 0 (by omega)
    rw [Nat.testBit_zero] at h0
    simp at h0
    rw [Nat.testBit_succ] at h
    have ih := ctzFrom_at k t (w / 2) (by omega) h (fun j hj => by have := hl (j + 1) (by omega); rwa [Nat.testBit_succ] at this)
    simp [Go.Lib.ctzFrom, h0, ih]
    omega
theorem ctz_at (t w : Nat) (ht : t < 64) (h : w.testBit t = true) (hl : ∀ j, j < t → w.testBit j = false) : Go.Lib.ctz 64 w = t := by
  have h0 : w ≠ 0 := by intro e; rw [e] at h; simp at h
  unfold Go.Lib.ctz
  rw [if_neg h0]
  exact ctzFrom_at 64 t w ht h hl
/-- a word that isn't 0 has a lowest one -/
theorem low_of (f : Nat → Bool) (h : num 64 f ≠ 0) : ∃ t, t < 64 ∧ f t = true ∧ (∀ j, j < t → f j = false) ∧ Go.Lib.ctz 64 (num 64 f) = t := by
  have hex : ∃ i, i < 64 ∧ f i = true := by
    by_cases hx : ∃ i, i < 64 ∧ f i = true
    · exact hx
    · exfalso
      apply h
      apply Nat.eq_of_testBit_eq
      intro i
      rw [num_bit, Nat.zero_testBit]
      by_cases hi : i < 64
      · cases hf : f i with
        | false => simp
        | true => exact absurd ⟨i, hi, hf⟩ hx
      · simp [hi]
  have key : ∀ n, n ≤ 64 → (∃ t, t < n ∧ f t = true ∧ ∀ j, j < t → f j = false) ∨ ∀ j, j < n → f j = false := by
    intro n
    induction n with
    | zero => intro _; right; intro j hj; omega
    | succ n ih =>
      intro hn
      rcases ih (by omega) with ⟨t, h1, h2, h3⟩ | h1
      · exact .inl ⟨t, by omega, h2, h3⟩
      · cases hf : f n with
        | true => exact .inl ⟨n, by omega, hf, h1⟩
        | false =>
          right
          intro j hj
          by_cases e : j = n
          · subst e; exact hf
          · exact h1 j (by omega)
  rcases key 64 (Nat.le_refl _) with ⟨t, h1, h2, h3⟩ | h1
  · refine ⟨t, h1, h2, h3, ctz_at t _ h1 ?_ fun j hj => ?_⟩
    · rw [num_bit]; simp [h1, h2]
    · rw [num_bit, h3 j hj]; simp
  · obtain ⟨i, hi, hf⟩ := hex
    rw [h1 i hi] at hf
    cases hf
theorem num_zero {f : Nat → Bool} (h : num 64 f = 0) : ∀ i, i < 64 → f i = false := by
  intro i hi
  have := num_bit 64 f i
  rw [h, Nat.zero_testBit] at this
  simpa [hi] using this.symm
end Ds

/-! Pop: plain: the count of a word's ones, by halves, quarters, bytes -/
namespace Pop

/-- f over the 8 bytes -/
def mp (f : Nat → Nat) : Nat → Nat → Nat
  | 0, _ => 0
  | n + 1, x => f (x % 256) + 256 * mp f n (x / 256)
theorem mp_congr {f g : Nat → Nat} (h : ∀ d, d < 256 → f d = g d) : ∀ n x, mp f n x = mp g n x
  | 0, _ => rfl
  | n + 1, x => by rw [mp, mp, h _ (Nat.mod_lt _ (by omega)), mp_congr h n]
theorem mp_div {f : Nat → Nat} (hf : ∀ d, d < 256 → f d < 256) (n x : Nat) : mp f (n + 1) x % 256 = f (x % 256) ∧ mp f (n + 1) x / 256 = mp f n (x / 256) := by
  have h := hf (x % 256) (Nat.mod_lt _ (by omega))
  rw [mp]
  omega
theorem mp_comp {f g : Nat → Nat} (hf : ∀ d, d < 256 → f d < 256) : ∀ n x, mp g n (mp f n x) = mp (fun d => g (f d)) n x
  | 0, _ => rfl
  | n + 1, x => by
    obtain ⟨h1, h2⟩ := mp_div hf n x
    rw [mp, h1, h2, mp_comp hf n, mp]
theorem and_split (a b c d : Nat) (ha : a < 256) (hb : b < 256) : (a + 256 * c) &&& (b + 256 * d) = (a &&& b) + 256 * (c &&& d) := by
  have hab : a &&& b < 2 ^ 8 := Nat.and_lt_two_pow (n := 8) a (by omega)
  apply Nat.eq_of_testBit_eq
  intro i
  rw [Nat.testBit_and, Nat.add_comm a, Nat.add_comm b, Nat.add_comm (a &&& b), show (256 : Nat) = 2 ^ 8 from rfl, Nat.testBit_two_pow_mul_add _ ha, Nat.testBit_two_pow_mul_add _ hb, Nat.testBit_two_pow_mul_add _ hab]
  split
  · rw [Nat.testBit_and]
  · rw [Nat.testBit_and]
/-- a mask: the byte m, n times -/
def mask (m : Nat) : Nat → Nat
  | 0 => 0
  | n + 1 => m + 256 * mask m n
theorem and_mask (m : Nat) (hm : m < 256) : ∀ n x, x &&& mask m n = mp (fun d => d &&& m) n x
  | 0, x => by simp [mask, mp]
  | n + 1, x => by
    rw [mask, mp, ← and_mask m hm n (x / 256), ← and_split _ _ _ _ (Nat.mod_lt _ (by omega)) hm]
    congr 1
    omega
/-- the word shifted by k, then masked: byte by byte, where the mask lets in no bit of the next byte -/
theorem shr_mask (k m : Nat) (hk : k ≤ 8) (hm : m < 2 ^ (8 - k)) : ∀ n x, (x / 2 ^ k) &&& mask m n = mp (fun d => (d / 2 ^ k) &&& m) n x := by
  have hm256 : m < 256 := Nat.lt_of_lt_of_le hm (by have : 2 ^ (8 - k) ≤ 2 ^ 8 := Nat.pow_le_pow_right (by omega) (by omega); omega)
  intro n
  induction n with
  | zero => intro x; simp [mask, mp]
  | succ n ih =>
    intro x
    rw [mask, mp, ← ih (x / 256)]
    have h256 : 2 ^ k * 2 ^ (8 - k) = 256 := by rw [← Nat.pow_add, Nat.add_sub_cancel' hk]
    have hpk : 0 < 2 ^ k := Nat.pow_pos (by omega)
    have hp8 : 0 < 2 ^ (8 - k) := Nat.pow_pos (by omega)
    generalize 2 ^ k = A at *
    generalize hB : 2 ^ (8 - k) = B at *
    -- x / A = (x % 256 / A + B * (x / 256 % A)) + 256 * (x / 256 / A)
    have e1 : x / A = x % 256 / A + B * (x / 256) := by
      conv => lhs; rw [← Nat.mod_add_div x 256, ← h256, Nat.mul_assoc, Nat.add_mul_div_left _ _ hpk]
      rw [h256]
    have hd : x % 256 / A < B := by
      rw [Nat.div_lt_iff_lt_mul hpk, Nat.mul_comm, h256]
      exact Nat.mod_lt _ (by omega)
    have e2 : x / A = (x % 256 / A + B * (x / 256 % A)) + 256 * (x / 256 / A) := by
      have := Nat.mod_add_div (x / 256) A
      rw [e1]
      conv => lhs; rw [← this]
      rw [Nat.mul_add, ← Nat.mul_assoc, Nat.mul_comm B A, h256]
      omega
    have hlt : x % 256 / A + B * (x / 256 % A) < 256 := by
      have h3 := Nat.mod_lt (x / 256) hpk
      have : B * (x / 256 % A) + B ≤ B * A := by rw [← Nat.mul_succ]; exact Nat.mul_le_mul_left _ h3
      rw [Nat.mul_comm B A, h256] at this
      omega
    rw [e2, and_split _ _ _ _ hlt hm256]
    congr 1
    -- the low bits
    apply Nat.eq_of_testBit_eq
    intro i
    rw [Nat.testBit_and, Nat.testBit_and]
    by_cases hi : i < 8 - k
    · rw [Nat.add_comm (x % 256 / A), ← hB, Nat.testBit_two_pow_mul_add _ (by rw [hB]; exact hd), if_pos hi]
    · have : m.testBit i = false := Nat.testBit_lt_two_pow (Nat.lt_of_lt_of_le (by rw [hB]; exact hm) (Nat.pow_le_pow_right (by omega) (by omega)))
      rw [this, Bool.and_false, Bool.and_false]
theorem mp_add {f g : Nat → Nat} : ∀ n x, mp f n x + mp g n x = mp (fun d => f d + g d) n x
  | 0, _ => rfl
  | n + 1, x => by rw [mp, mp, mp, ← mp_add n (x / 256)]; omega
theorem mp_lt {f : Nat → Nat} (hf : ∀ d, d < 256 → f d < 256) : ∀ n x, mp f n x < 256 ^ n
  | 0, _ => by simp [mp]
  | n + 1, x => by
    have h := hf (x % 256) (Nat.mod_lt _ (by omega))
    have := mp_lt hf n (x / 256)
    rw [mp, Nat.pow_succ]
    omega
theorem mp_id : ∀ n x, x < 256 ^ n → mp (fun d => d) n x = x
  | 0, x, h => by simp at h; simp [mp, h]
  | n + 1, x, h => by
    rw [mp, mp_id n (x / 256) (by rw [Nat.pow_succ] at h; omega)]
    omega
/-- nibbles: the word and its shift by 4 added, then masked -/
theorem nib {f : Nat → Nat} (hf : ∀ d, d < 256 → f d / 16 ≤ 4 ∧ f d % 16 ≤ 4) : ∀ n x, ((mp f n x) / 16 + mp f n x) &&& mask 15 n = mp (fun d => f d / 16 + f d % 16) n x := by
  intro n
  induction n with
  | zero => intro x; simp [mask, mp]
  | succ n ih =>
    intro x
    have h1 := hf (x % 256) (Nat.mod_lt _ (by omega))
    rw [mask, mp, mp, ← ih (x / 256)]
    have hc : mp f n (x / 256) % 16 ≤ 4 := by
      cases n with
      | zero => simp [mp]
      | succ n =>
        have h2 := hf (x / 256 % 256) (Nat.mod_lt _ (by omega))
        rw [mp]
        omega
    generalize f (x % 256) = d at h1
    generalize mp f n (x / 256) = c at hc
    have e : (d + 256 * c) / 16 + (d + 256 * c) = (d / 16 + 16 * (c % 16) + d) + 256 * (c / 16 + c) := by omega
    rw [e, and_split _ _ _ _ (by omega) (by omega)]
    congr 1
    rw [show (15 : Nat) = 2 ^ 4 - 1 from rfl, Nat.and_two_pow_sub_one_eq_mod]
    omega
def b1 (d : Nat) : Nat := (d / 2 &&& 85) + (d &&& 85)
def b2 (d : Nat) : Nat := (d / 4 &&& 51) + (d &&& 51)
def b12 (d : Nat) : Nat := b2 (b1 d)
def b3 (d : Nat) : Nat := b12 d / 16 + b12 d % 16
theorem b1_lt : ∀ d : Fin 256, b1 d < 256 := by decide +kernel
theorem b12_ok : ∀ d : Fin 256, b12 d < 256 ∧ b12 d / 16 ≤ 4 ∧ b12 d % 16 ≤ 4 ∧ b3 d = Go.Lib.popAux 8 d := by decide +kernel
theorem m85 : mask 85 8 = 6148914691236517205 := by decide
theorem m51 : mask 51 8 = 3689348814741910323 := by decide
theorem m15 : mask 15 8 = 1085102592571150095 := by decide
theorem popAux_le : ∀ n x, Go.Lib.popAux n x ≤ n
  | 0, _ => Nat.le_refl _
  | n + 1, x => by have := popAux_le n (x / 2); simp only [Go.Lib.popAux]; omega
theorem popAux_add : ∀ a b x, Go.Lib.popAux (a + b) x = Go.Lib.popAux a x + Go.Lib.popAux b (x / 2 ^ a)
  | 0, b, x => by simp [Go.Lib.popAux]
  | a + 1, b, x => by
    rw [show a + 1 + b = (a + b) + 1 by omega, Go.Lib.popAux, Go.Lib.popAux, popAux_add a b (x / 2), Nat.div_div_eq_div_mul, Nat.pow_succ, Nat.mul_comm 2]
    omega
theorem popAux_mod : ∀ a x, Go.Lib.popAux a (x % 2 ^ a) = Go.Lib.popAux a x
  | 0, x => rfl
  | a + 1, x => by
    rw [Go.Lib.popAux, Go.Lib.popAux, ← popAux_mod a (x / 2)]
    have h1 : x % 2 ^ (a + 1) % 2 = x % 2 := by rw [Nat.pow_succ]; exact Nat.mod_mul_left_mod _ _ _
    have h2 : x % 2 ^ (a + 1) / 2 = x / 2 % 2 ^ a := by rw [Nat.pow_succ, Nat.mul_comm, Nat.mod_mul_right_div_self]
    rw [h1, h2]
/-- THE THREE STEPS -/
def s1 (x : Nat) : Nat := (x / 2 &&& 6148914691236517205) + (x &&& 6148914691236517205)
def s2 (x : Nat) : Nat := (x / 4 &&& 3689348814741910323) + (x &&& 3689348814741910323)
def s3 (x : Nat) : Nat := (x / 16 + x) &&& 1085102592571150095
theorem s1_eq (x : Nat) : s1 x = mp b1 8 x := by
  unfold s1
  rw [← m85, and_mask 85 (by omega) 8 x, show x / 2 = x / 2 ^ 1 from rfl, shr_mask 1 85 (by omega) (by decide) 8 x, mp_add]
  rfl
theorem s2_eq (x : Nat) : s2 (s1 x) = mp b12 8 x := by
  unfold s2
  rw [← m51, and_mask 51 (by omega) 8 (s1 x), show s1 x / 4 = s1 x / 2 ^ 2 from rfl, shr_mask 2 51 (by omega) (by decide) 8 (s1 x), mp_add, s1_eq, mp_comp (fun d hd => b1_lt ⟨d, hd⟩)]
  rfl
theorem s3_eq (x : Nat) : s3 (s2 (s1 x)) = mp (Go.Lib.popAux 8) 8 x := by
  unfold s3
  rw [s2_eq, ← m15, nib (fun d hd => ⟨(b12_ok ⟨d, hd⟩).2.1, (b12_ok ⟨d, hd⟩).2.2.1⟩)]
  exact mp_congr (fun d hd => (b12_ok ⟨d, hd⟩).2.2.2) 8 x
theorem st1 (y y1 a : Nat) (h0 : y = a + 256 * y1) (ha : a ≤ 8) : y / 256 = y1 := by omega
theorem st2 (y y1 y2 y3 a b c : Nat) (h0 : y = a + 256 * y1) (h1 : y1 = b + 256 * y2) (h2 : y2 = c + 256 * y3) (ha : a ≤ 8) (hb : b ≤ 8) (hc : c ≤ 8) : (y + y1) / 65536 = y2 + y3 := by
  have e1 : y + y1 = (a + b + 256 * (b + c)) + 65536 * (y2 + y3) := by omega
  rw [e1, Nat.add_mul_div_left _ _ (by decide), Nat.div_eq_of_lt (by omega), Nat.zero_add]
theorem st3 (y y1 y2 y3 y4 y5 y6 h a b c d e f g : Nat) (h0 : y = a + 256 * y1) (h1 : y1 = b + 256 * y2) (h2 : y2 = c + 256 * y3) (h3 : y3 = d + 256 * y4) (h4 : y4 = e + 256 * y5) (h5 : y5 = f + 256 * y6) (h6 : y6 = g + 256 * h)
    (ha : a ≤ 8) (hb : b ≤ 8) (hc : c ≤ 8) (hd : d ≤ 8) (he : e ≤ 8) (hf : f ≤ 8) (hg : g ≤ 8) : ((y + y1) + (y2 + y3)) / 4294967296 = y4 + y5 + (y6 + h) := by
  have e1 : (y + y1) + (y2 + y3) = ((a + b + c + d) + 256 * (b + c + d + e) + 65536 * (c + d + e + f) + 16777216 * (d + e + f + g)) + 4294967296 * (y4 + y5 + (y6 + h)) := by omega
  rw [e1, Nat.add_mul_div_left _ _ (by decide), Nat.div_eq_of_lt (by omega), Nat.zero_add]
theorem le256 {a y m n x : Nat} (hx : x = a + 256 * y) (ha : a ≤ 8) (hy : y ≤ m) (h : 8 + 256 * m ≤ n) : x ≤ n := by omega
theorem fin8 (y y1 y2 y3 y4 y5 y6 h a b c d e f g : Nat) (h0 : y = a + 256 * y1) (h1 : y1 = b + 256 * y2) (h2 : y2 = c + 256 * y3) (h3 : y3 = d + 256 * y4) (h4 : y4 = e + 256 * y5) (h5 : y5 = f + 256 * y6) (h6 : y6 = g + 256 * h) (b0 : y ≤ 578721382704613384)
    (ha : a ≤ 8) (hb : b ≤ 8) (hc : c ≤ 8) (hd : d ≤ 8) (he : e ≤ 8) (hf : f ≤ 8) (hg : g ≤ 8) (hh : h ≤ 8) :
    y + y1 < 18446744073709551616 ∧ (y + y1) + (y2 + y3) < 18446744073709551616 ∧ ((y + y1) + (y2 + y3)) + (y4 + y5 + (y6 + h)) < 18446744073709551616 ∧ (((y + y1) + (y2 + y3)) + (y4 + y5 + (y6 + h))) % 128 = a + b + c + d + e + f + g + h := by
  have l1 : y1 ≤ y := by omega
  have l2 : y2 ≤ y1 := by omega
  have l3 : y3 ≤ y2 := by omega
  have l4 : y4 ≤ y3 := by omega
  have l5 : y5 ≤ y4 := by omega
  have l6 : y6 ≤ y5 := by omega
  have l7 : h ≤ y6 := by omega
  have e1 : y + y1 + (y2 + y3) + (y4 + y5 + (y6 + h)) = (a + b + c + d + e + f + g + h) + 128 * (2 * (y1 + y2 + y3 + y4 + y5 + y6 + h)) := by omega
  clear h0 h1 h2 h3 h4 h5 h6
  refine ⟨by omega, by omega, by omega, ?_⟩
  rw [e1, Nat.add_mul_mod_self_left, Nat.mod_eq_of_lt (by omega)]
theorem sum8 (y y1 y2 y3 y4 y5 y6 h a b c d e f g : Nat) (h0 : y = a + 256 * y1) (h1 : y1 = b + 256 * y2) (h2 : y2 = c + 256 * y3) (h3 : y3 = d + 256 * y4) (h4 : y4 = e + 256 * y5) (h5 : y5 = f + 256 * y6) (h6 : y6 = g + 256 * h)
    (ha : a ≤ 8) (hb : b ≤ 8) (hc : c ≤ 8) (hd : d ≤ 8) (he : e ≤ 8) (hf : f ≤ 8) (hg : g ≤ 8) (hh : h ≤ 8) :
    y + y / 256 < 18446744073709551616 ∧ (y + y / 256) + (y + y / 256) / 65536 < 18446744073709551616 ∧ ((y + y / 256) + (y + y / 256) / 65536) + ((y + y / 256) + (y + y / 256) / 65536) / 4294967296 < 18446744073709551616 ∧
      (((y + y / 256) + (y + y / 256) / 65536) + ((y + y / 256) + (y + y / 256) / 65536) / 4294967296) % 128 = a + b + c + d + e + f + g + h := by
  have b6 := le256 h6 hg hh (show 8 + 256 * 8 ≤ 2056 by omega)
  have b5 := le256 h5 hf b6 (show 8 + 256 * 2056 ≤ 526344 by omega)
  have b4 := le256 h4 he b5 (show 8 + 256 * 526344 ≤ 134744072 by omega)
  have b3 := le256 h3 hd b4 (show 8 + 256 * 134744072 ≤ 34494482440 by omega)
  have b2 := le256 h2 hc b3 (show 8 + 256 * 34494482440 ≤ 8830587504648 by omega)
  have b1 := le256 h1 hb b2 (show 8 + 256 * 8830587504648 ≤ 2260630401189896 by omega)
  have b0 := le256 h0 ha b1 (show 8 + 256 * 2260630401189896 ≤ 578721382704613384 by omega)
  rw [st1 y y1 a h0 ha, st2 y y1 y2 y3 a b c h0 h1 h2 ha hb hc, st3 y y1 y2 y3 y4 y5 y6 h a b c d e f g h0 h1 h2 h3 h4 h5 h6 ha hb hc hd he hf hg]
  exact fin8 y y1 y2 y3 y4 y5 y6 h a b c d e f g h0 h1 h2 h3 h4 h5 h6 b0 ha hb hc hd he hf hg hh
theorem sum8n (y a b c d e f g h : Nat) (hy : y = a + 256 * (b + 256 * (c + 256 * (d + 256 * (e + 256 * (f + 256 * (g + 256 * h))))))) (ha : a ≤ 8) (hb : b ≤ 8) (hc : c ≤ 8) (hd : d ≤ 8) (he : e ≤ 8) (hf : f ≤ 8) (hg : g ≤ 8) (hh : h ≤ 8) :
    y + y / 256 < 18446744073709551616 ∧ (y + y / 256) + (y + y / 256) / 65536 < 18446744073709551616 ∧ ((y + y / 256) + (y + y / 256) / 65536) + ((y + y / 256) + (y + y / 256) / 65536) / 4294967296 < 18446744073709551616 ∧
      (((y + y / 256) + (y + y / 256) / 65536) + ((y + y / 256) + (y + y / 256) / 65536) / 4294967296) % 128 = a + b + c + d + e + f + g + h :=
  sum8 y (b + 256 * (c + 256 * (d + 256 * (e + 256 * (f + 256 * (g + 256 * h)))))) (c + 256 * (d + 256 * (e + 256 * (f + 256 * (g + 256 * h))))) (d + 256 * (e + 256 * (f + 256 * (g + 256 * h)))) (e + 256 * (f + 256 * (g + 256 * h))) (f + 256 * (g + 256 * h)) (g + 256 * h) h a b c d e f g hy rfl rfl rfl rfl rfl rfl ha hb hc hd he hf hg hh
theorem pop64 (x : Nat) (hx : x < 18446744073709551616) : ∃ y, s3 (s2 (s1 x)) = y ∧ y + y / 256 < 18446744073709551616 ∧ (y + y / 256) + (y + y / 256) / 65536 < 18446744073709551616 ∧ ((y + y / 256) + (y + y / 256) / 65536) + ((y + y / 256) + (y + y / 256) / 65536) / 4294967296 < 18446744073709551616 ∧
      (((y + y / 256) + (y + y / 256) / 65536) + ((y + y / 256) + (y + y / 256) / 65536) / 4294967296) % 128 = Go.Lib.onesCount x := by
  refine ⟨_, rfl, ?_⟩
  have e := s3_eq x
  simp only [mp, Nat.mul_zero, Nat.add_zero] at e
  have P : ∀ z, Go.Lib.popAux 8 (z % 256) = Go.Lib.popAux 8 z := fun z => popAux_mod 8 z
  simp only [P, Nat.div_div_eq_div_mul] at e
  have h := sum8n _ _ _ _ _ _ _ _ _ e (popAux_le 8 _) (popAux_le 8 _) (popAux_le 8 _) (popAux_le 8 _) (popAux_le 8 _) (popAux_le 8 _) (popAux_le 8 _) (popAux_le 8 _)
  refine ⟨h.1, h.2.1, h.2.2.1, h.2.2.2.trans ?_⟩
  rw [Go.Lib.onesCount, show 64 = 8 + (8 + (8 + (8 + (8 + (8 + (8 + 8)))))) from rfl]
  simp only [popAux_add, Nat.div_div_eq_div_mul]
  simp only [Nat.reducePow, Nat.reduceMul]
  clear e h P hx
  omega
end Pop

/-! Oc: the count of a word's ones -/
namespace Go.Proofs.YtmkbbekeimnajaaDoor
open Go.RowKit
theorem and_le' (a b : Nat) : a &&& b ≤ b := Nat.and_le_right
theorem oc1 (x : Nat) (hx : x < 18446744073709551616) : IntKind.u64.wrap (bits .and .u64 ((x : Int) / 2) 6148914691236517205 + bits .and .u64 (x : Int) 6148914691236517205) = ((Pop.s1 x : Nat) : Int) ∧ Pop.s1 x ≤ 12297829382473034410 := by
  have e1 : (x : Int) / 2 = ((x / 2 : Nat) : Int) := by omega
  have a1 := bits_and_u64_nat (x / 2) 6148914691236517205 (by omega) (by omega)
  have a2 := bits_and_u64_nat x 6148914691236517205 hx (by omega)
  have k1 := and_le' (x / 2) 6148914691236517205
  have k2 := and_le' x 6148914691236517205
  refine ⟨?_, by unfold Pop.s1; omega⟩
  rw [e1, show (6148914691236517205 : Int) = ((6148914691236517205 : Nat) : Int) from rfl, a1, a2, IntKind.wrap_u64]
  unfold Pop.s1
  omega
theorem oc2 (x : Nat) (hx : x ≤ 12297829382473034410) : IntKind.u64.wrap (bits .and .u64 ((x : Int) / 4) 3689348814741910323 + bits .and .u64 (x : Int) 3689348814741910323) = ((Pop.s2 x : Nat) : Int) ∧ Pop.s2 x ≤ 7378697629483820646 := by
  have e1 : (x : Int) / 4 = ((x / 4 : Nat) : Int) := by omega
  have a1 := bits_and_u64_nat (x / 4) 3689348814741910323 (by omega) (by omega)
  have a2 := bits_and_u64_nat x 3689348814741910323 (by omega) (by omega)
  have k1 := and_le' (x / 4) 3689348814741910323
  have k2 := and_le' x 3689348814741910323
  refine ⟨?_, by unfold Pop.s2; omega⟩
  rw [e1, show (3689348814741910323 : Int) = ((3689348814741910323 : Nat) : Int) from rfl, a1, a2, IntKind.wrap_u64]
  unfold Pop.s2
  omega
theorem oc3 (x : Nat) (hx : x ≤ 7378697629483820646) : bits .and .u64 (IntKind.u64.wrap ((x : Int) / 16 + x)) 1085102592571150095 = ((Pop.s3 x : Nat) : Int) ∧ Pop.s3 x ≤ 1085102592571150095 := by
  have e1 : IntKind.u64.wrap ((x : Int) / 16 + x) = ((x / 16 + x : Nat) : Int) := by rw [IntKind.wrap_u64]; omega
  have a1 := bits_and_u64_nat (x / 16 + x) 1085102592571150095 (by omega) (by omega)
  refine ⟨?_, by unfold Pop.s3; exact and_le' _ _⟩
  rw [e1, show (1085102592571150095 : Int) = ((1085102592571150095 : Nat) : Int) from rfl, a1]
  rfl
theorem oc4 (z : Nat) (h : z < 9223372036854775808) : bits .and .i64 (z : Int) 127 = ((z % 128 : Nat) : Int) := by
  have hx : z &&& 127 = z % 128 := Nat.and_two_pow_sub_one_eq_mod z 7
  have h1 : (BitVec.ofInt 64 (z : Int)).toNat = z := by
    rw [BitVec.ofInt_natCast, BitVec.toNat_ofNat]; exact Nat.mod_eq_of_lt (by omega)
  have h2 : (BitVec.ofInt 64 (127 : Int)).toNat = 127 := rfl
  show IntKind.i64.wrap ((BitVec.ofInt 64 (z : Int) &&& BitVec.ofInt 64 (127 : Int)).toNat : Int) = _
  rw [BitVec.toNat_and, h1, h2, IntKind.wrap_i64, hx]
  omega
set_option maxRecDepth 100000 in
theorem ones_any (w : World) (x : Nat) (hx : x < 18446744073709551616) :
    Calls Tryd.prog 45 #[.int .u64 (x : Nat)] w fun e w' => e = .returned (.int .i64 (Go.Lib.onesCount x : Nat)) ∧ w = w' := by
  obtain ⟨o1, b1⟩ := oc1 x hx
  obtain ⟨o2, b2⟩ := oc2 _ b1
  obtain ⟨o3, b3⟩ := oc3 _ b2
  obtain ⟨y, hy, c1, c2, c3, c4⟩ := Pop.pop64 x hx
  have HC4 := hide c4
  obtain ⟨y1, hy1⟩ : ∃ z, Pop.s1 x = z := ⟨_, rfl⟩
  rw [hy1] at o1 o2 hy o3 b3
  obtain ⟨y2, hy2⟩ : ∃ z, Pop.s2 y1 = z := ⟨_, rfl⟩
  rw [hy2] at o2 o3 hy b3
  rw [hy] at o3 b3
  have p1 : IntKind.u64.wrap ((y : Int) + (y : Int) / 256) = ((y + y / 256 : Nat) : Int) := by rw [IntKind.wrap_u64]; omega
  obtain ⟨z1, hz1⟩ : ∃ z, y + y / 256 = z := ⟨_, rfl⟩
  rw [hz1] at p1 c2 c3 HC4
  have p2 : IntKind.u64.wrap ((z1 : Int) + (z1 : Int) / 65536) = ((z1 + z1 / 65536 : Nat) : Int) := by rw [IntKind.wrap_u64]; omega
  obtain ⟨z2, hz2⟩ : ∃ z, z1 + z1 / 65536 = z := ⟨_, rfl⟩
  rw [hz2] at p2 c3 HC4
  have p3 : IntKind.u64.wrap ((z2 : Int) + (z2 : Int) / 4294967296) = ((z2 + z2 / 4294967296 : Nat) : Int) := by rw [IntKind.wrap_u64]; omega
  obtain ⟨z3, hz3⟩ : ∃ z, z2 + z2 / 4294967296 = z := ⟨_, rfl⟩
  rw [hz3] at p3 HC4
  have hb3 : z3 < 9223372036854775808 := by omega
  clear hy hz1 hz2 hz3 hy1 hy2 c1 c2 c3 c4 b1 b2 b3 hx
  go_enter Tryd.func45, Tryd.ntmps45
  go_upto_region 2 with (fail)
  go_upto_region 3 with (fail)
  go_upto_region 4 with (fail)
  go_wp2_with fail
  go_ret
  exact ⟨ret_int (by rw [← HC4.out]; exact oc4 z3 hb3), rfl⟩
end Go.Proofs.YtmkbbekeimnajaaDoor
