/- the plain law of a number in bytes -/
namespace Go.Proofs.YtmkbbekeimnajaaDoor.Nm

/-- the number that bytes make -/
def val : List Nat → Nat
  | [] => 0
  | x :: r => x % 128 + 128 * val r
/-- from index i on, f bytes at most: how many bytes it has, the error (1 short, 2 varint) -/
def num : Nat → Nat → List Nat → Nat × Nat
  | 0, _, _ => (0, 1)
  | f + 1, i, bs =>
    match bs[i]? with
    | none => (0, 1)
    | some x => if i = 9 ∧ 1 < x then (0, 2) else if 128 ≤ x then num f (i + 1) bs else if x = 0 ∧ 0 < i then (0, 2) else (i + 1, 0)

theorem val_app (xs : List Nat) (x : Nat) : val (xs ++ [x]) = val xs + x % 128 * 128 ^ xs.length := by
  induction xs with
  | nil => simp [val]
  | cons y r ih =>
    simp only [List.cons_append, val, ih, List.length_cons, Nat.pow_succ]
    rw [Nat.mul_add, Nat.add_assoc]
    congr 2
    rw [Nat.mul_comm 128, Nat.mul_assoc]
theorem val_lt (xs : List Nat) : val xs < 128 ^ xs.length := by
  induction xs with
  | nil => simp [val]
  | cons y r ih =>
    simp only [val, List.length_cons, Nat.pow_succ]
    have := Nat.mod_lt y (show 0 < 128 by decide)
    have : val r + 1 ≤ 128 ^ r.length := ih
    omega
theorem val_take {bs : List Nat} {i x : Nat} (h : bs[i]? = some x) : val (bs.take (i + 1)) = val (bs.take i) + x % 128 * 128 ^ i := by
  obtain ⟨hl, _⟩ := List.getElem?_eq_some_iff.1 h
  rw [List.take_add_one, h, Option.toList_some, val_app, List.length_take, Nat.min_eq_left (by omega)]
theorem val_take_lt (bs : List Nat) (i : Nat) : val (bs.take i) < 128 ^ i := by
  refine Nat.lt_of_lt_of_le (val_lt _) (Nat.pow_le_pow_right (by decide) ?_)
  rw [List.length_take]
  omega
theorem num_take {f i : Nat} (bs : List Nat) (h : i + f ≤ 10) : num f i (bs.take 10) = num f i bs := by
  induction f generalizing i with
  | zero => rfl
  | succ f ih =>
    rw [num, num, List.getElem?_take, if_pos (by omega)]
    cases hb : bs[i]? with
    | none => rfl
    | some x => simp only [ih (i := i + 1) (by omega)]
/-- what a good answer tells -/
theorem num_ok {f i n : Nat} {bs : List Nat} (hf : i + f ≤ 10) (h : num f i bs = (n, 0)) : i < n ∧ n ≤ 10 ∧ n ≤ bs.length ∧ ∃ x, bs[n - 1]? = some x ∧ x < 128 ∧ (n = 10 → x ≤ 1) ∧ (1 < n → 0 < x) := by
  induction f generalizing i with
  | zero => simp [num] at h
  | succ f ih =>
    rw [num] at h
    cases hb : bs[i]? with
    | none => rw [hb] at h; simp at h
    | some x =>
      obtain ⟨hl, _⟩ := List.getElem?_eq_some_iff.1 hb
      rw [hb] at h
      simp only at h
      split at h
      · simp at h
      · split at h
        · have := ih (by omega) h
          exact ⟨by omega, this.2⟩
        · split at h
          · simp at h
          · simp only [Prod.mk.injEq, and_true] at h
            subst h
            refine ⟨by omega, by omega, by omega, x, by simpa using hb, by omega, by omega, by omega⟩
theorem num_err {f i : Nat} (bs : List Nat) : (num f i bs).2 = 0 ∨ num f i bs = (0, 1) ∨ num f i bs = (0, 2) := by
  induction f generalizing i with
  | zero => exact .inr (.inl rfl)
  | succ f ih =>
    rw [num]
    cases bs[i]? with
    | none => exact .inr (.inl rfl)
    | some x =>
      simp only
      split
      · exact .inr (.inr rfl)
      · split
        · exact ih
        · split
          · exact .inr (.inr rfl)
          · exact .inl rfl
theorem val_ok {n : Nat} {bs : List Nat} (h : num 10 0 bs = (n, 0)) : val (bs.take n) < 18446744073709551616 := by
  obtain ⟨h1, h2, h3, x, hx, hx128, hx10, _⟩ := num_ok (by omega) h
  obtain ⟨m, rfl⟩ : ∃ m, n = m + 1 := ⟨n - 1, by omega⟩
  simp only [Nat.add_sub_cancel] at hx
  rw [val_take hx]
  have hv := val_take_lt bs m
  by_cases hm : m = 9
  · subst hm
    have := hx10 rfl
    have : x % 128 = x := by omega
    rw [this]
    have e : (128 : Nat) ^ 9 = 9223372036854775808 := by decide
    rw [e] at *
    have : x * 9223372036854775808 ≤ 1 * 9223372036854775808 := Nat.mul_le_mul_right _ (by omega)
    omega
  · have hp : 128 ^ (m + 1) ≤ 128 ^ 9 := Nat.pow_le_pow_right (by decide) (by omega)
    have e : (128 : Nat) ^ 9 = 9223372036854775808 := by decide
    have hs : 128 ^ (m + 1) = 128 ^ m * 128 := Nat.pow_succ ..
    have hx2 : x % 128 * 128 ^ m ≤ 127 * 128 ^ m := Nat.mul_le_mul_right _ (by omega)
    rw [e] at hp
    omega
theorem val_drop_le (l : List Nat) (j : Nat) : val (l.drop j) ≤ val l := by
  induction l generalizing j with
  | nil => simp
  | cons x r ih =>
    cases j with
    | zero => simp
    | succ j =>
      have := ih j
      rw [List.drop_succ_cons, val]
      omega
theorem val_drop {l : List Nat} {j x : Nat} (h : l[j]? = some x) : val (l.drop j) = x % 128 + 128 * val (l.drop (j + 1)) := by
  rw [List.drop_eq_getElem?_toList_append, h]
  rfl
end Go.Proofs.YtmkbbekeimnajaaDoor.Nm
