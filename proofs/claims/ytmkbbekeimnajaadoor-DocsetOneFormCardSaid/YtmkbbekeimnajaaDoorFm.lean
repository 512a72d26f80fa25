/- plain: sets of numbers as words of 64 bits; counting, ranks -/
namespace Ds
/-- the number whose bit i is f i, below 2 ^ k -/
def num : Nat → (Nat → Bool) → Nat
  | 0, _ => 0
  | k + 1, f => num k f + if f k then 2 ^ k else 0
theorem num_lt : ∀ (k : Nat) (f : Nat → Bool), num k f < 2 ^ k
  | 0, _ => by simp [num]
  | k + 1, f => by
    have h := num_lt k f
    rw [num, Nat.pow_succ]
    split <;> omega
theorem num_bit : ∀ (k : Nat) (f : Nat → Bool) (i : Nat), (num k f).testBit i = (decide (i < k) && f i)
  | 0, f, i => by simp [num]
  | k + 1, f, i => by
    have h := num_lt k f
    have ih := num_bit k f i
    rw [num]
    split
    · rename_i hf
      have e : num k f + 2 ^ k = 2 ^ k ||| num k f := by
        have := Nat.two_pow_add_eq_or_of_lt h 1
        rw [Nat.mul_one] at this
        omega
      rw [e, Nat.testBit_or, Nat.testBit_two_pow, ih]
      by_cases hi : i = k
      · subst hi; simp [hf]
      · have h1 : (i < k + 1) = (i < k) := propext ⟨fun _ => by omega, fun _ => by omega⟩
        have h2 : decide (k = i) = false := by simp; omega
        simp [h1, h2]
    · rename_i hf
      rw [Nat.add_zero, ih]
      by_cases hi : i = k
      · subst hi; simp at hf; simp [hf]
      · have h1 : (i < k + 1) = (i < k) := propext ⟨fun _ => by omega, fun _ => by omega⟩
        simp [h1]
theorem num_ext {k x : Nat} {f : Nat → Bool} (hx : x < 2 ^ k) (h : ∀ i, i < k → x.testBit i = f i) : x = num k f := by
  apply Nat.eq_of_testBit_eq
  intro i
  rw [num_bit]
  by_cases hi : i < k
  · rw [h i hi]; simp [hi]
  · rw [Nat.testBit_lt_two_pow (Nat.lt_of_lt_of_le hx (Nat.pow_le_pow_right (by omega) (by omega)))]
    simp [hi]
theorem num_congr {k : Nat} {f g : Nat → Bool} (h : ∀ i, i < k → f i = g i) : num k f = num k g :=
  num_ext (num_lt k f) fun i hi => by rw [num_bit, h i hi]; simp [hi]
/-- word j of the set m -/
def word (m : Nat → Bool) (j : Nat) : Nat := num 64 fun k => m (64 * j + k)
theorem word_lt (m : Nat → Bool) (j : Nat) : word m j < 2 ^ 64 := num_lt 64 _
theorem word_bit (m : Nat → Bool) (j k : Nat) : (word m j).testBit k = (decide (k < 64) && m (64 * j + k)) := num_bit 64 _ k
theorem word_has (m : Nat → Bool) (i : Nat) : (word m (i / 64)).testBit (i % 64) = m i := by
  rw [word_bit]
  have : 64 * (i / 64) + i % 64 = i := Nat.div_add_mod i 64
  rw [this]
  simp [Nat.mod_lt]
/-- m with i in, or out -/
def put (m : Nat → Bool) (i : Nat) (b : Bool) : Nat → Bool := fun k => if k = i then b else m k
theorem word_put (m : Nat → Bool) (i : Nat) (b : Bool) (j : Nat) (hj : j ≠ i / 64) : word (put m i b) j = word m j := by
  refine num_congr fun k hk => ?_
  unfold put
  rw [if_neg (fun e => hj (by omega))]
theorem word_add (m : Nat → Bool) (i : Nat) : word m (i / 64) ||| 2 ^ (i % 64) = word (put m i true) (i / 64) := by
  refine num_ext (Nat.or_lt_two_pow (word_lt _ _) (Nat.pow_lt_pow_right (by omega) (by omega))) fun k hk => ?_
  rw [Nat.testBit_or, word_bit, Nat.testBit_two_pow]
  unfold put
  by_cases h : i % 64 = k
  · rw [if_pos (by omega)]; simp [h]
  · rw [if_neg (by omega)]; simp [h, hk]
/-- the members below n, their number -/
def mem (m : Nat → Bool) (n : Nat) : List Nat := (List.range n).filter m
def cnt (m : Nat → Bool) (n : Nat) : Nat := (mem m n).length
theorem mem_succ (m : Nat → Bool) (n : Nat) : mem m (n + 1) = mem m n ++ if m n then [n] else [] := by
  unfold mem
  rw [List.range_succ, List.filter_append]
  by_cases h : m n <;> simp [h]
theorem cnt_succ (m : Nat → Bool) (n : Nat) : cnt m (n + 1) = cnt m n + if m n then 1 else 0 := by
  unfold cnt
  rw [mem_succ, List.length_append]
  by_cases h : m n <;> simp [h]
theorem cnt_le (m : Nat → Bool) : ∀ n, cnt m n ≤ n
  | 0 => by simp [cnt, mem]
  | n + 1 => by rw [cnt_succ]; have := cnt_le m n; split <;> omega
theorem cnt_mono (m : Nat → Bool) {a b : Nat} (h : a ≤ b) : cnt m a ≤ cnt m b := by
  obtain ⟨d, rfl⟩ : ∃ d, b = a + d := ⟨b - a, by omega⟩
  clear h
  induction d with
  | zero => exact Nat.le_refl _
  | succ d ih => rw [show a + (d + 1) = (a + d) + 1 by omega, cnt_succ]; omega
theorem cnt_congr {m k : Nat → Bool} : ∀ {n : Nat}, (∀ i, i < n → m i = k i) → cnt m n = cnt k n
  | 0, _ => rfl
  | n + 1, h => by rw [cnt_succ, cnt_succ, cnt_congr (fun i hi => h i (by omega)), h n (by omega)]
theorem mem_congr {m k : Nat → Bool} : ∀ {n : Nat}, (∀ i, i < n → m i = k i) → mem m n = mem k n
  | 0, _ => rfl
  | n + 1, h => by rw [mem_succ, mem_succ, mem_congr (fun i hi => h i (by omega)), h n (by omega)]
theorem mem_iff {m : Nat → Bool} {n i : Nat} : i ∈ mem m n ↔ i < n ∧ m i = true := by simp [mem]
theorem mem_lt {m : Nat → Bool} {n i : Nat} (h : i ∈ mem m n) : i < n := (mem_iff.1 h).1
theorem cnt_put (m : Nat → Bool) (i : Nat) (b : Bool) : ∀ n, cnt (put m i b) n + (if i < n ∧ m i = true then 1 else 0) = cnt m n + (if i < n ∧ b = true then 1 else 0)
  | 0 => rfl
  | n + 1 => by
    have ih := cnt_put m i b n
    rw [cnt_succ, cnt_succ]
    by_cases e : n = i
    · subst e
      have hk : put m n b n = b := by unfold put; rw [if_pos rfl]
      rw [hk]
      have h1 : ¬ n < n := by omega
      have h2 : n < n + 1 := by omega
      simp only [h1, h2, true_and, false_and, if_false] at ih ⊢
      omega
    · have hk : put m i b n = m n := by unfold put; rw [if_neg e]
      rw [hk]
      have h1 : (i < n + 1) = (i < n) := propext ⟨fun _ => by omega, fun _ => by omega⟩
      simp only [h1]
      omega
/-- the members of a range -/
theorem cnt_add (m : Nat → Bool) (a b : Nat) : cnt m (a + b) = cnt m a + cnt (fun k => m (a + k)) b := by
  induction b with
  | zero => simp [cnt, mem]
  | succ b ih => rw [← Nat.add_assoc, cnt_succ, ih, cnt_succ]; omega
/-- member number k -/
theorem mem_get (m : Nat → Bool) (n k i : Nat) : (mem m n)[k]? = some i ↔ i < n ∧ m i = true ∧ cnt m i = k := by
  induction n generalizing k with
  | zero => simp [mem]
  | succ n ih =>
    rw [mem_succ]
    by_cases hk : k < (mem m n).length
    · rw [List.getElem?_append_left hk, ih]
      constructor
      · rintro ⟨h1, h2⟩; exact ⟨by omega, h2⟩
      · rintro ⟨h1, h2, h3⟩
        refine ⟨?_, h2, h3⟩
        by_cases e : i = n
        · subst e
          have : cnt m i = (mem m i).length := rfl
          omega
        · omega
    · rw [List.getElem?_append_right (by omega)]
      by_cases hm : m n
      · rw [if_pos hm]
        by_cases e : k - (mem m n).length = 0
        · rw [e]
          simp only [List.getElem?_cons_zero, Option.some.injEq]
          constructor
          · rintro rfl; exact ⟨by omega, hm, by have : cnt m n = (mem m n).length := rfl; omega⟩
          · rintro ⟨h1, h2, h3⟩
            by_cases e' : i = n
            · exact e'.symm
            · have h4 := cnt_mono m (a := i + 1) (b := n) (by omega)
              rw [cnt_succ, if_pos h2] at h4
              have : cnt m n = (mem m n).length := rfl
              omega
        · rw [List.getElem?_eq_none (by simp; omega)]
          constructor
          · intro h; cases h
          · rintro ⟨h1, h2, h3⟩
            have h4 := cnt_mono m (a := i) (b := n) (by omega)
            have : cnt m n = (mem m n).length := rfl
            omega
      · rw [if_neg hm]
        simp only [List.getElem?_nil]
        constructor
        · intro h; cases h
        · rintro ⟨h1, h2, h3⟩
          by_cases e' : i = n
          · subst e'; rw [h2] at hm; simp at hm
          · have h4 := cnt_mono m (a := i + 1) (b := n) (by omega)
            rw [cnt_succ, if_pos h2] at h4
            have : cnt m n = (mem m n).length := rfl
            omega
/-- the least member from i on -/
def next (m : Nat → Bool) (n i : Nat) : Option Nat := ((List.range n).drop i).find? m
theorem next_some {m : Nat → Bool} {n i k : Nat} (hi : i ≤ k) (hk : k < n) (hm : m k = true) (h : ∀ j, i ≤ j → j < k → m j = false) : next m n i = some k := by
  have : ∀ d i, k - i = d → i ≤ k → (∀ j, i ≤ j → j < k → m j = false) → ((List.range n).drop i).find? m = some k := by
    intro d
    induction d with
    | zero =>
      intro i hd hi h
      have : i = k := by omega
      subst this
      rw [List.drop_eq_getElem_cons (by simpa using hk)]
      simp [hm]
    | succ d ih =>
      intro i hd hi h
      rw [List.drop_eq_getElem_cons (by simp; omega)]
      simp only [List.getElem_range, List.find?_cons]
      rw [h i (Nat.le_refl _) (by omega)]
      exact ih (i + 1) (by omega) (by omega) (fun j h1 h2 => h j (by omega) h2)
  exact this _ i rfl hi h
theorem next_none {m : Nat → Bool} {n i : Nat} (h : ∀ j, i ≤ j → j < n → m j = false) : next m n i = none := by
  unfold next
  rw [List.find?_eq_none]
  intro x hx
  obtain ⟨k, hk⟩ := List.mem_iff_getElem?.1 hx
  rw [List.getElem?_drop] at hk
  have hl := (List.getElem?_eq_some_iff.1 hk).1
  simp only [List.length_range] at hl
  rw [List.getElem?_range hl] at hk
  simp only [Option.some.injEq] at hk
  rw [h x (by omega) (by omega)]
  simp
/-- the tag of the shortest form -/
def tagOf (w c : Nat) : Nat :=
  if c = 0 then 0 else if c = w then 1
  else if 1 + (w + 7) / 8 < min (2 + c) (2 + w - c) then 4 else if 2 + w - c < 2 + c then 3 else 2
def bitsB (f : Nat → Bool) (w : Nat) : List Nat := (List.range ((w + 7) / 8)).map fun k => num 8 fun i => decide (8 * k + i < w) && f (8 * k + i)
def inv (f : Nat → Bool) : Nat → Bool := fun i => !f i
/-- a block of w numbers -/
def form (f : Nat → Bool) (w : Nat) : List Nat :=
  if tagOf w (cnt f w) = 0 then [0] else if tagOf w (cnt f w) = 1 then [1]
  else if tagOf w (cnt f w) = 2 then 2 :: (cnt f w - 1) :: mem f w
  else if tagOf w (cnt f w) = 3 then 3 :: (w - cnt f w - 1) :: mem (inv f) w
  else 4 :: bitsB f w
theorem cnt_inv (f : Nat → Bool) : ∀ w, cnt (inv f) w = w - cnt f w
  | 0 => by simp [cnt, mem]
  | w + 1 => by
    have := cnt_le f w
    rw [cnt_succ, cnt_succ, cnt_inv f w]
    unfold inv
    by_cases h : f w <;> simp [h] <;> omega
theorem getD_lt {l : List Nat} {i : Nat} (h : i < l.length) : l.getD i 0 = l[i] := by simp [List.getD, h]
theorem getD_ge {l : List Nat} {i : Nat} (h : l.length ≤ i) : l.getD i 0 = 0 := by simp [List.getD, h]
theorem bitsB_len (f : Nat → Bool) (w : Nat) : (bitsB f w).length = (w + 7) / 8 := by simp [bitsB]
theorem form_congr {f g : Nat → Bool} {w : Nat} (h : ∀ i, i < w → f i = g i) : form f w = form g w := by
  have h1 := cnt_congr h
  have h2 := mem_congr h
  have h3 : mem (inv f) w = mem (inv g) w := mem_congr fun i hi => by unfold inv; rw [h i hi]
  have h4 : bitsB f w = bitsB g w := by
    unfold bitsB
    refine List.map_congr_left fun k _ => num_congr fun i _ => ?_
    by_cases e : 8 * k + i < w
    · rw [h _ e]
    · simp [e]
  unfold form
  rw [h1, h2, h3, h4]
theorem tagOf_cases (w c : Nat) : (tagOf w c = 0 ∧ c = 0) ∨ (tagOf w c = 1 ∧ c ≠ 0 ∧ c = w) ∨ (tagOf w c = 2 ∧ c ≠ 0 ∧ c ≠ w ∧ 2 + c ≤ 2 + w - c ∧ 2 + c ≤ 1 + (w + 7) / 8) ∨
    (tagOf w c = 3 ∧ c ≠ 0 ∧ c ≠ w ∧ 2 + w - c < 2 + c ∧ 2 + w - c ≤ 1 + (w + 7) / 8) ∨ (tagOf w c = 4 ∧ c ≠ 0 ∧ c ≠ w ∧ 1 + (w + 7) / 8 < 2 + c ∧ 1 + (w + 7) / 8 < 2 + w - c) := by
  unfold tagOf
  by_cases h0 : c = 0
  · exact .inl ⟨by rw [if_pos h0], h0⟩
  · by_cases h1 : c = w
    · exact .inr (.inl ⟨by rw [if_neg h0, if_pos h1], h0, h1⟩)
    · by_cases h2 : 1 + (w + 7) / 8 < min (2 + c) (2 + w - c)
      · exact .inr (.inr (.inr (.inr ⟨by rw [if_neg h0, if_neg h1, if_pos h2], h0, h1, by omega, by omega⟩)))
      · by_cases h3 : 2 + w - c < 2 + c
        · exact .inr (.inr (.inr (.inl ⟨by rw [if_neg h0, if_neg h1, if_neg h2, if_pos h3], h0, h1, h3, by omega⟩)))
        · exact .inr (.inr (.inl ⟨by rw [if_neg h0, if_neg h1, if_neg h2, if_neg h3], h0, h1, by omega, by omega⟩))
theorem form_len (f : Nat → Bool) (w : Nat) (hw : w ≤ 256) : 1 ≤ (form f w).length ∧ (form f w).length ≤ 33 := by
  have hc := cnt_le f w
  have l1 : (mem f w).length = cnt f w := rfl
  have l2 : (mem (inv f) w).length = w - cnt f w := cnt_inv f w
  unfold form
  rcases tagOf_cases w (cnt f w) with ⟨e, _⟩ | ⟨e, _⟩ | ⟨e, h1, h2, h3, h4⟩ | ⟨e, h1, h2, h3, h4⟩ | ⟨e, h1, h2, h3, h4⟩ <;> rw [e]
  · simp
  · simp
  · simp [l1]; omega
  · simp [l2]; omega
  · simp [bitsB_len]; omega
theorem num8_lt (f : Nat → Bool) : num 8 f < 256 := num_lt 8 f
theorem form_lt (f : Nat → Bool) (w : Nat) (hw : w ≤ 256) : ∀ x ∈ form f w, x < 256 := by
  have hc := cnt_le f w
  unfold form
  intro x hx
  split at hx
  · simp at hx; omega
  · split at hx
    · simp at hx; omega
    · split at hx
      · simp only [List.mem_cons] at hx
        rcases hx with rfl | rfl | hx
        · omega
        · rename_i h0 h1 h2
          have e1 : cnt f w ≠ 0 := by intro e; apply h0; unfold tagOf; simp [e]
          omega
        · have := mem_lt hx; omega
      · split at hx
        · simp only [List.mem_cons] at hx
          rcases hx with rfl | rfl | hx
          · omega
          · rename_i h0 h1 h2 h3
            have e1 : cnt f w ≠ 0 := by intro e; apply h0; unfold tagOf; simp [e]
            omega
          · have := mem_lt hx; omega
        · simp only [List.mem_cons] at hx
          rcases hx with rfl | hx
          · omega
          · simp only [bitsB, List.mem_map] at hx
            obtain ⟨k, _, rfl⟩ := hx
            exact num8_lt _
/-- rising, and all below w -/
def rising (w : Nat) (ps : List Nat) : Prop := (∀ x ∈ ps, x < w) ∧ ∀ (k : Nat) (x y : Nat), ps[k]? = some x → ps[k + 1]? = some y → x < y
def has (ps : List Nat) : Nat → Bool := fun i => ps.contains i
theorem rising_mem (f : Nat → Bool) : ∀ w, rising w (mem f w)
  | w => ⟨fun x hx => mem_lt hx, fun k x y hx hy => by
    rw [mem_get] at hx hy
    by_cases h : x < y
    · exact h
    · have := cnt_mono f (a := y) (b := x) (by omega)
      omega⟩
theorem rising_lt {w : Nat} {ps : List Nat} (h : rising w ps) : ∀ (d i x y : Nat), ps[i]? = some x → ps[i + d + 1]? = some y → x < y
  | 0, i, x, y, hx, hy => h.2 i x y hx hy
  | d + 1, i, x, y, hx, hy => by
    have hl := (List.getElem?_eq_some_iff.1 hy).1
    have hz : ps[i + d + 1]? = some ps[i + d + 1] := List.getElem?_eq_getElem (by omega)
    have h1 := rising_lt h d i x _ hx hz
    have h2 := h.2 (i + d + 1) _ y hz (by rw [show i + d + 1 + 1 = i + (d + 1) + 1 by omega]; exact hy)
    omega
theorem rising_snoc {w x : Nat} {ps : List Nat} (h : rising w (ps ++ [x])) : rising x ps ∧ x < w := by
  have hx : (ps ++ [x])[ps.length]? = some x := by simp
  refine ⟨⟨fun y hy => ?_, fun k a b ha hb => ?_⟩, h.1 x (by simp)⟩
  · obtain ⟨k, hk⟩ := List.mem_iff_getElem?.1 hy
    have hl := (List.getElem?_eq_some_iff.1 hk).1
    refine rising_lt h (ps.length - k - 1) k y x ?_ ?_
    · rw [List.getElem?_append_left hl]; exact hk
    · rw [show k + (ps.length - k - 1) + 1 = ps.length by omega]; exact hx
  · have la := (List.getElem?_eq_some_iff.1 ha).1
    have lb := (List.getElem?_eq_some_iff.1 hb).1
    exact h.2 k a b (by rw [List.getElem?_append_left la]; exact ha) (by rw [List.getElem?_append_left lb]; exact hb)
theorem mem_has {w : Nat} {ps : List Nat} (h : rising w ps) : mem (has ps) w = ps := by
  have key : ∀ (n : Nat) (ps : List Nat), ps.length = n → ∀ w, rising w ps → mem (has ps) w = ps := by
    intro n
    induction n with
    | zero =>
      intro ps hn w _
      rw [List.eq_nil_of_length_eq_zero hn]
      simp [mem, has]
    | succ n ih =>
      intro ps hn w h
      obtain ⟨qs, x, rfl⟩ : ∃ qs x, ps = qs ++ [x] := by
        rcases List.eq_nil_or_concat ps with rfl | ⟨qs, x, rfl⟩
        · simp at hn
        · exact ⟨qs, x, by simp⟩
      obtain ⟨h1, h2⟩ := rising_snoc h
      have hq := ih qs (by simpa using hn) x h1
      have e1 : mem (has (qs ++ [x])) (x + 1) = qs ++ [x] := by
        rw [mem_succ, if_pos (by simp [has])]
        congr 1
        refine Eq.trans (mem_congr fun i hi => ?_) hq
        simp only [has, List.contains_eq_mem, List.mem_append, List.mem_singleton]
        congr 1
        exact propext ⟨fun h => h.elim id (fun e => by omega), .inl⟩
      obtain ⟨d, rfl⟩ : ∃ d, w = (x + 1) + d := ⟨w - (x + 1), by omega⟩
      clear h h2
      induction d with
      | zero => exact e1
      | succ d ihd =>
        rw [show x + 1 + (d + 1) = (x + 1 + d) + 1 by omega, mem_succ, ihd, if_neg, List.append_nil]
        simp only [has, List.contains_eq_mem, List.mem_append, List.mem_singleton, decide_eq_true_eq]
        rintro (hm | hm)
        · have := h1.1 _ hm; omega
        · omega
  exact key ps.length ps rfl w h
theorem has_mem (f : Nat → Bool) (w i : Nat) (hi : i < w) : has (mem f w) i = f i := by
  simp only [has, List.contains_eq_mem]
  rw [Bool.eq_iff_iff]
  simp [mem_iff, hi]
/-- the bits of bytes -/
def bitAt (r : List Nat) : Nat → Bool := fun i => (r.getD (i / 8) 0).testBit (i % 8)
theorem bitAt_bitsB (f : Nat → Bool) (w i : Nat) (r : List Nat) (hi : i < w) : bitAt (bitsB f w ++ r) i = f i := by
  unfold bitAt
  have hk : i / 8 < (w + 7) / 8 := by omega
  rw [getD_lt (by rw [List.length_append, bitsB_len]; omega), List.getElem_append_left (by rw [bitsB_len]; exact hk)]
  simp only [bitsB, List.getElem_map, List.getElem_range]
  rw [num_bit]
  have e : 8 * (i / 8) + i % 8 = i := Nat.div_add_mod i 8
  rw [e]
  simp [hi, Nat.mod_lt]
theorem bitAt_high (f : Nat → Bool) (w i : Nat) (hi : w ≤ i) : bitAt (bitsB f w) i = false := by
  unfold bitAt
  by_cases hk : i / 8 < (w + 7) / 8
  · rw [getD_lt (by rw [bitsB_len]; exact hk)]
    simp only [bitsB, List.getElem_map, List.getElem_range]
    rw [num_bit]
    have e : 8 * (i / 8) + i % 8 = i := Nat.div_add_mod i 8
    rw [e]
    have : ¬ i < w := by omega
    simp [this]
  · rw [getD_ge (by rw [bitsB_len]; omega)]
    simp
theorem bitsB_bitAt (w : Nat) (r : List Nat) (hl : r.length = (w + 7) / 8) (hx : ∀ x ∈ r, x < 256) (hh : ∀ i, w ≤ i → i < 256 → bitAt r i = false) (hw : w ≤ 256) : bitsB (bitAt r) w = r := by
  apply List.ext_getElem?
  intro k
  by_cases hk : k < (w + 7) / 8
  · have hkr : k < r.length := by omega
    simp only [bitsB, List.getElem?_map, List.getElem?_range hk, Option.map_some, List.getElem?_eq_getElem hkr, Option.some.injEq]
    refine (num_ext (hx _ (List.getElem_mem hkr)) fun i hi => ?_).symm
    have e1 : (8 * k + i) / 8 = k := by omega
    have e2 : (8 * k + i) % 8 = i := by omega
    have e3 : bitAt r (8 * k + i) = (r[k]).testBit i := by
      unfold bitAt
      rw [e1, e2, getD_lt hkr]
    by_cases h : 8 * k + i < w
    · simp [h, e3]
    · have := hh (8 * k + i) (by omega) (by omega)
      rw [e3] at this
      simp [h, this]
  · rw [List.getElem?_eq_none (by rw [bitsB_len]; omega), List.getElem?_eq_none (by omega)]
/-- THE STRICT READING of a block: the members, and what is left -/
inductive Took (w : Nat) : List Nat → (Nat → Bool) → List Nat → Prop where
  | none (r : List Nat) : Took w (0 :: r) (fun _ => false) r
  | all (r : List Nat) : Took w (1 :: r) (fun _ => true) r
  | list (k : Nat) (ps r : List Nat) : ps.length = k + 1 → rising w ps → tagOf w (cnt (has ps) w) = 2 → Took w (2 :: k :: (ps ++ r)) (has ps) r
  | hole (k : Nat) (ps r : List Nat) : ps.length = k + 1 → rising w ps → tagOf w (cnt (inv (has ps)) w) = 3 → Took w (3 :: k :: (ps ++ r)) (inv (has ps)) r
  | bits (ps r : List Nat) : ps.length = (w + 7) / 8 → (∀ x ∈ ps, x < 256) → (∀ i, w ≤ i → i < 256 → bitAt ps i = false) → tagOf w (cnt (bitAt ps) w) = 4 → Took w (4 :: (ps ++ r)) (bitAt ps) r
theorem cnt_false (w : Nat) : cnt (fun _ => false) w = 0 := by simp [cnt, mem]
theorem cnt_true : ∀ w : Nat, cnt (fun _ => true) w = w
  | 0 => rfl
  | w + 1 => by rw [cnt_succ, cnt_true w]; rfl
theorem took_form {w : Nat} (hw : 0 < w) (hw2 : w ≤ 256) {b r : List Nat} {f : Nat → Bool} (h : Took w b f r) : b = form f w ++ r := by
  cases h with
  | none => unfold form; rw [cnt_false]; simp [tagOf]
  | all =>
    unfold form
    rw [cnt_true]
    have e : tagOf w w = 1 := by unfold tagOf; rw [if_neg (by omega), if_pos rfl]
    rw [e]
    simp
  | list k ps r h1 h2 h3 =>
    unfold form
    rw [h3]
    have hm := mem_has h2
    have hc : cnt (has ps) w = k + 1 := by unfold cnt; rw [hm]; exact h1
    rw [hc, hm]
    simp
  | hole k ps r h1 h2 h3 =>
    unfold form
    rw [h3]
    have hii : inv (inv (has ps)) = has ps := by funext i; simp [inv]
    have hm := mem_has h2
    have hc : w - cnt (inv (has ps)) w = k + 1 := by rw [← cnt_inv, hii]; unfold cnt; rw [hm]; exact h1
    rw [hc, hii, hm]
    simp
  | bits ps r h1 h2 h3 h4 =>
    unfold form
    rw [h4, bitsB_bitAt w ps h1 h2 h3 hw2]
    simp
theorem took_of_form {w : Nat} (hw : 0 < w) (hw2 : w ≤ 256) (f : Nat → Bool) (r : List Nat) : ∃ g, (∀ i, i < w → g i = f i) ∧ Took w (form f w ++ r) g r := by
  have hc := cnt_le f w
  unfold form
  split
  · rename_i h0
    have : cnt f w = 0 := by
      unfold tagOf at h0
      split at h0
      · assumption
      · split at h0
        · cases h0
        · split at h0
          · cases h0
          · split at h0 <;> cases h0
    refine ⟨fun _ => false, fun i hi => ?_, .none r⟩
    by_cases hf : f i
    · have h1 := cnt_mono f (a := i + 1) (b := w) (by omega)
      rw [cnt_succ, if_pos hf] at h1
      omega
    · simp at hf; exact hf.symm
  · split
    · rename_i h0 h1
      have : cnt f w = w := by
        unfold tagOf at h1
        split at h1
        · cases h1
        · split at h1
          · assumption
          · split at h1
            · cases h1
            · split at h1 <;> cases h1
      refine ⟨fun _ => true, fun i hi => ?_, .all r⟩
      by_cases hf : f i
      · exact hf.symm
      · have hi1 := cnt_inv f w
        have h2 := cnt_mono (inv f) (a := i + 1) (b := w) (by omega)
        rw [cnt_succ, if_pos (by unfold inv; simp [hf])] at h2
        omega
    · split
      · rename_i h0 h1 h2
        have e1 : cnt f w ≠ 0 := by intro e; apply h0; unfold tagOf; simp [e]
        have hl : (mem f w).length = cnt f w - 1 + 1 := by have : (mem f w).length = cnt f w := rfl; omega
        refine ⟨has (mem f w), fun i hi => has_mem f w i hi, ?_⟩
        rw [List.cons_append, List.cons_append]
        exact .list _ _ r hl (rising_mem f w) (by rw [cnt_congr (fun i hi => has_mem f w i hi)]; exact h2)
      · split
        · rename_i h0 h1 h2 h3
          have e1 : cnt f w ≠ w := by
            intro e
            apply h1
            unfold tagOf
            rw [if_neg (by omega), if_pos e]
          have hl : (mem (inv f) w).length = w - cnt f w - 1 + 1 := by have : (mem (inv f) w).length = w - cnt f w := cnt_inv f w; omega
          have hg : ∀ i, i < w → inv (has (mem (inv f) w)) i = f i := fun i hi => by
            unfold inv
            rw [has_mem (fun i => !f i) w i hi]
            simp
          refine ⟨inv (has (mem (inv f) w)), hg, ?_⟩
          rw [List.cons_append, List.cons_append]
          exact .hole _ _ r hl (rising_mem (inv f) w) (by rw [cnt_congr hg]; exact h3)
        · rename_i h0 h1 h2 h3
          have h4 : tagOf w (cnt f w) = 4 := by
            unfold tagOf at *
            split
            · rename_i e; simp [e] at h0
            · rename_i e
              rw [if_neg e] at h0 h1 h2 h3
              split
              · rename_i e2; rw [if_pos e2] at h1; exact absurd rfl h1
              · rename_i e2
                rw [if_neg e2] at h0 h1 h2 h3
                split
                · rfl
                · rename_i e3
                  rw [if_neg e3] at h2 h3
                  split
                  · rename_i e4; rw [if_pos e4] at h3; exact absurd rfl h3
                  · rename_i e4; rw [if_neg e4] at h2; exact absurd rfl h2
          have hg : ∀ i, i < w → bitAt (bitsB f w) i = f i := fun i hi => by
            have := bitAt_bitsB f w i [] hi
            rwa [List.append_nil] at this
          refine ⟨bitAt (bitsB f w), hg, ?_⟩
          rw [List.cons_append]
          refine .bits _ r (bitsB_len f w) (fun x hx => ?_) (fun i hi _ => bitAt_high f w i hi) (by rw [cnt_congr hg]; exact h4)
          simp only [bitsB, List.mem_map] at hx
          obtain ⟨k, _, rfl⟩ := hx
          exact num8_lt _
theorem took_unique {w : Nat} {b r s : List Nat} {f g : Nat → Bool} (h : Took w b f r) (k : Took w b g s) : f = g ∧ r = s := by
  cases h with
  | none => cases k; exact ⟨rfl, rfl⟩
  | all => cases k; exact ⟨rfl, rfl⟩
  | list k1 ps r h1 h2 h3 =>
    generalize hb : 2 :: k1 :: (ps ++ r) = b at k
    cases k with
    | none => simp at hb
    | all => simp at hb
    | list k2 qs s g1 g2 g3 =>
      simp only [List.cons.injEq, true_and] at hb
      obtain ⟨rfl, hb⟩ := hb
      obtain ⟨rfl, rfl⟩ := List.append_inj hb (by omega)
      exact ⟨rfl, rfl⟩
    | hole => simp at hb
    | bits => simp at hb
  | hole k1 ps r h1 h2 h3 =>
    generalize hb : 3 :: k1 :: (ps ++ r) = b at k
    cases k with
    | none => simp at hb
    | all => simp at hb
    | list => simp at hb
    | hole k2 qs s g1 g2 g3 =>
      simp only [List.cons.injEq, true_and] at hb
      obtain ⟨rfl, hb⟩ := hb
      obtain ⟨rfl, rfl⟩ := List.append_inj hb (by omega)
      exact ⟨rfl, rfl⟩
    | bits => simp at hb
  | bits ps r h1 h2 h3 h4 =>
    generalize hb : 4 :: (ps ++ r) = b at k
    cases k with
    | none => simp at hb
    | all => simp at hb
    | list => simp at hb
    | hole => simp at hb
    | bits qs s g1 g2 g3 g4 =>
      simp only [List.cons.injEq, true_and] at hb
      obtain ⟨rfl, rfl⟩ := List.append_inj hb (by omega)
      exact ⟨rfl, rfl⟩
/-! the whole form, block by block -/
/-- how many numbers block j has -/
def wid (n j : Nat) : Nat := min 256 (n - 256 * j)
def nb (n : Nat) : Nat := (n + 255) / 256
theorem nb_lt {n j : Nat} : j < nb n ↔ 256 * j < n := by unfold nb; omega
theorem wid_pos {n j : Nat} (h : j < nb n) : 0 < wid n j := by have := nb_lt.1 h; unfold wid; omega
theorem wid_le (n j : Nat) : wid n j ≤ 256 := by unfold wid; omega
def blk (m : Nat → Bool) (j : Nat) : Nat → Bool := fun i => m (256 * j + i)
def encB (n : Nat) (m : Nat → Bool) (j : Nat) : List Nat := form (blk m j) (wid n j)
def body (n : Nat) (m : Nat → Bool) (j : Nat) : List Nat := (List.range j).flatMap (encB n m)
theorem body_zero (n : Nat) (m : Nat → Bool) : body n m 0 = [] := rfl
theorem body_succ (n : Nat) (m : Nat → Bool) (j : Nat) : body n m (j + 1) = body n m j ++ encB n m j := by
  simp [body, List.range_succ]
theorem encB_congr {n : Nat} {m k : Nat → Bool} {j : Nat} (h : ∀ i, i < n → 256 * j ≤ i → i < 256 * (j + 1) → m i = k i) : encB n m j = encB n k j := by
  refine form_congr fun i hi => ?_
  unfold wid at hi
  exact h (256 * j + i) (by omega) (by omega) (by omega)
theorem body_congr {n : Nat} {m k : Nat → Bool} : ∀ {j : Nat}, (∀ i, i < n → i < 256 * j → m i = k i) → body n m j = body n k j
  | 0, _ => rfl
  | j + 1, h => by
    rw [body_succ, body_succ, body_congr (fun i h1 h2 => h i h1 (by omega)), encB_congr (fun i h1 _ h3 => h i h1 h3)]
theorem body_len (n : Nat) (m : Nat → Bool) : ∀ j, j ≤ (body n m j).length ∧ (body n m j).length ≤ 33 * j
  | 0 => by simp [body]
  | j + 1 => by
    have h1 := body_len n m j
    have h2 := form_len (blk m j) (wid n j) (wid_le n j)
    rw [body_succ, List.length_append]
    unfold encB
    omega
theorem body_lt (n : Nat) (m : Nat → Bool) (j : Nat) : ∀ x ∈ body n m j, x < 256 := by
  intro x hx
  simp only [body, List.mem_flatMap] at hx
  obtain ⟨k, _, hx⟩ := hx
  exact form_lt _ _ (wid_le n k) x hx
/-- two readings of the same bytes agree -/
theorem body_unique (n : Nat) (m k : Nat → Bool) : ∀ (j : Nat) (r s : List Nat), j ≤ nb n → body n m j ++ r = body n k j ++ s → (∀ i, i < n → i < 256 * j → m i = k i) ∧ r = s
  | 0, r, s, _, h => ⟨fun i _ hi => absurd hi (by omega), by simpa [body] using h⟩
  | j + 1, r, s, hj, h => by
    rw [body_succ, body_succ, List.append_assoc, List.append_assoc] at h
    obtain ⟨h1, h2⟩ := body_unique n m k j _ _ (by omega) h
    have hw := wid_pos (n := n) (j := j) (by omega)
    unfold encB at h2
    obtain ⟨f, hf, tf⟩ := took_of_form hw (wid_le n j) (blk m j) r
    obtain ⟨g, hg, tg⟩ := took_of_form hw (wid_le n j) (blk k j) s
    rw [h2] at tf
    obtain ⟨e1, e2⟩ := took_unique tf tg
    subst e1
    refine ⟨fun i hi hlt => ?_, e2⟩
    by_cases hl : i < 256 * j
    · exact h1 i hi hl
    · have hiw : i - 256 * j < wid n j := by unfold wid; omega
      have ha := hf _ hiw
      have hb := hg _ hiw
      unfold blk at ha hb
      rw [show 256 * j + (i - 256 * j) = i by omega] at ha hb
      rw [← ha, ← hb]
/-- a block more is read -/
def setB (m : Nat → Bool) (n j : Nat) (f : Nat → Bool) : Nat → Bool := fun i => if 256 * j ≤ i ∧ i < 256 * j + wid n j then f (i - 256 * j) else m i
theorem body_read {n : Nat} {m : Nat → Bool} {j : Nat} {r r' b : List Nat} {f : Nat → Bool} (hj : j < nb n) (h : b = body n m j ++ r) (ht : Took (wid n j) r f r') : b = body n (setB m n j f) (j + 1) ++ r' := by
  have hw := wid_pos hj
  rw [h, took_form hw (wid_le n j) ht, body_succ, List.append_assoc]
  have e1 : body n (setB m n j f) j = body n m j := body_congr fun i _ hi => by unfold setB; rw [if_neg (by omega)]
  have e2 : encB n (setB m n j f) j = form f (wid n j) := form_congr fun i hi => by
    unfold blk setB
    rw [if_pos (by omega), show 256 * j + i - 256 * j = i by omega]
  rw [e1, e2]
/-- where no block can be read, the bytes are no set's -/
theorem body_stuck {n : Nat} {m : Nat → Bool} {j : Nat} {r b : List Nat} (hj : j < nb n) (h : b = body n m j ++ r) (ht : ∀ f r', ¬ Took (wid n j) r f r') : ∀ k, b ≠ body n k (nb n) := by
  intro k hk
  have split : ∀ d, nb n - j = d + 1 → ∃ s, body n k (nb n) = body n k j ++ (encB n k j ++ s) := by
    intro d hd
    have gen : ∀ d, ∃ s, body n k (j + 1 + d) = body n k j ++ (encB n k j ++ s) := by
      intro d
      induction d with
      | zero => exact ⟨[], by rw [Nat.add_zero, body_succ, List.append_nil]⟩
      | succ d ih =>
        obtain ⟨s, hs⟩ := ih
        refine ⟨s ++ encB n k (j + 1 + d), ?_⟩
        rw [show j + 1 + (d + 1) = (j + 1 + d) + 1 by omega, body_succ, hs]
        simp [List.append_assoc]
    have := gen d
    rwa [show j + 1 + d = nb n by omega] at this
  obtain ⟨s, hs⟩ := split (nb n - j - 1) (by omega)
  rw [h, hs] at hk
  obtain ⟨_, h2⟩ := body_unique n m k j _ _ (by omega) hk
  obtain ⟨f, _, tf⟩ := took_of_form (wid_pos hj) (wid_le n j) (blk k j) s
  unfold encB at h2
  rw [← h2] at tf
  exact ht f s tf
/-- where bytes are left behind the last block, they are no set's -/
theorem body_left {n : Nat} {m : Nat → Bool} {r b : List Nat} (h : b = body n m (nb n) ++ r) (hr : r ≠ []) : ∀ k, b ≠ body n k (nb n) := by
  intro k hk
  have h2 := body_unique n m k (nb n) r [] (Nat.le_refl _) (by rw [← h, hk, List.append_nil])
  exact hr h2.2
end Ds
