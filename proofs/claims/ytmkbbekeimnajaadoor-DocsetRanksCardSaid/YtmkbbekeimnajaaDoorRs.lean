/- plain: runs of members -/
import Derived.Test.YtmkbbekeimnajaaDoorFm
namespace Ds
def rnStep (l : List (Nat × Nat)) (i : Nat) : List (Nat × Nat) :=
  match l.getLast? with
  | some p => if p.2 + 1 = i then l.dropLast ++ [(p.1, i)] else l ++ [(i, i)]
  | none => [(i, i)]
def runs (xs : List Nat) : List (Nat × Nat) := xs.foldl rnStep []
theorem runs_nil : runs [] = [] := rfl
theorem runs_snoc (xs : List Nat) (i : Nat) : runs (xs ++ [i]) = rnStep (runs xs) i := by simp [runs]
/-- the numbers of a run, of runs -/
def nums (p : Nat × Nat) : List Nat := List.range' p.1 (p.2 + 1 - p.1)
def flat (l : List (Nat × Nat)) : List Nat := l.flatMap nums
theorem nums_one (i : Nat) : nums (i, i) = [i] := by simp [nums]
theorem nums_more {a b : Nat} (h : a ≤ b) : nums (a, b + 1) = nums (a, b) ++ [b + 1] := by
  unfold nums
  have e : b + 1 + 1 - a = (b + 1 - a) + 1 := by omega
  dsimp only
  rw [e, List.range'_concat, Nat.mul_comm, Nat.mul_one]
  congr 2
  omega
/-- runs one behind the other, apart, from lo on -/
def Rising : Nat → List (Nat × Nat) → Prop
  | _, [] => True
  | lo, p :: r => lo ≤ p.1 ∧ p.1 ≤ p.2 ∧ Rising (p.2 + 2) r
def top : Nat → List (Nat × Nat) → Nat
  | lo, [] => lo
  | _, p :: r => top (p.2 + 2) r
theorem rising_app : ∀ (l : List (Nat × Nat)) (lo : Nat) (p : Nat × Nat), Rising lo (l ++ [p]) ↔ Rising lo l ∧ top lo l ≤ p.1 ∧ p.1 ≤ p.2
  | [], lo, p => by simp [Rising, top]
  | q :: r, lo, p => by
    simp only [List.cons_append, Rising, top]
    rw [rising_app r]
    constructor
    · rintro ⟨a, b, c, d⟩; exact ⟨⟨a, b, c⟩, d⟩
    · rintro ⟨⟨a, b, c⟩, d⟩; exact ⟨a, b, c, d⟩
theorem top_app : ∀ (l : List (Nat × Nat)) (lo : Nat) (p : Nat × Nat), top lo (l ++ [p]) = p.2 + 2
  | [], _, _ => rfl
  | q :: r, _, p => by rw [List.cons_append, top, top_app r]
theorem snoc_of_last {l : List (Nat × Nat)} {p : Nat × Nat} (h : l.getLast? = some p) : l = l.dropLast ++ [p] := by
  rcases List.eq_nil_or_concat l with rfl | ⟨q, x, rfl⟩
  · simp at h
  · simp at h; subst h; simp
/-- what a step keeps: the numbers, and that the runs stand apart -/
theorem step_ok {l : List (Nat × Nat)} {i : Nat} (h : Rising 0 l) (hi : top 0 l ≤ i + 1) : flat (rnStep l i) = flat l ++ [i] ∧ Rising 0 (rnStep l i) ∧ top 0 (rnStep l i) = i + 2 := by
  unfold rnStep
  cases hl : l.getLast? with
  | none =>
    have : l = [] := List.getLast?_eq_none_iff.1 hl
    subst this
    simp [flat, nums_one, Rising, top]
  | some p =>
    have hs := snoc_of_last hl
    dsimp only
    have ht : top 0 l = p.2 + 2 := by rw [hs, top_app]
    have hr : Rising 0 (l.dropLast ++ [p]) := by rw [← hs]; exact h
    rw [rising_app] at hr
    obtain ⟨h1, h2, h3⟩ := hr
    by_cases e : p.2 + 1 = i
    · rw [if_pos e]
      refine ⟨?_, (rising_app _ _ _).2 ⟨h1, h2, by dsimp only; omega⟩, top_app _ _ _⟩
      conv => rhs; rw [hs]
      unfold flat
      rw [List.flatMap_append, List.flatMap_append, List.append_assoc]
      congr 1
      have := nums_more (a := p.1) (b := p.2) h3
      simp only [List.flatMap_cons, List.flatMap_nil, List.append_nil]
      rw [← e, this]
    · rw [if_neg e]
      refine ⟨?_, (rising_app _ _ _).2 ⟨h, by dsimp only; omega, Nat.le_refl _⟩, top_app _ _ _⟩
      unfold flat
      rw [List.flatMap_append]
      simp [nums_one]
theorem runs_ok {w : Nat} : ∀ (n : Nat) (xs : List Nat), xs.length = n → rising w xs → flat (runs xs) = xs ∧ Rising 0 (runs xs) ∧ top 0 (runs xs) ≤ w + 1 := by
  intro n
  induction n generalizing w with
  | zero => intro xs h _; rw [List.eq_nil_of_length_eq_zero h]; simp [runs, flat, Rising, top]
  | succ n ih =>
    intro xs h hr
    obtain ⟨qs, x, rfl⟩ : ∃ qs x, xs = qs ++ [x] := by
      rcases List.eq_nil_or_concat xs with rfl | ⟨qs, x, rfl⟩
      · simp at h
      · exact ⟨qs, x, by simp⟩
    obtain ⟨h1, h2⟩ := rising_snoc hr
    obtain ⟨a, b, c⟩ := ih qs (by simpa using h) h1
    obtain ⟨d, e, f⟩ := step_ok (i := x) b c
    rw [runs_snoc]
    exact ⟨by rw [d, a], e, by omega⟩
theorem runs_mem (m : Nat → Bool) (n : Nat) : flat (runs (mem m n)) = mem m n ∧ Rising 0 (runs (mem m n)) ∧ top 0 (runs (mem m n)) ≤ n + 1 :=
  runs_ok _ _ rfl (rising_mem m n)
theorem runs_len : ∀ (n : Nat) (xs : List Nat), xs.length = n → (runs xs).length ≤ n := by
  intro n
  induction n with
  | zero => intro xs h; rw [List.eq_nil_of_length_eq_zero h]; simp [runs]
  | succ n ih =>
    intro xs h
    obtain ⟨qs, x, rfl⟩ : ∃ qs x, xs = qs ++ [x] := by
      rcases List.eq_nil_or_concat xs with rfl | ⟨qs, x, rfl⟩
      · simp at h
      · exact ⟨qs, x, by simp⟩
    have := ih qs (by simpa using h)
    rw [runs_snoc]
    unfold rnStep
    cases hl : (runs qs).getLast? with
    | none => simp
    | some p =>
      dsimp only
      split
      · simp; omega
      · simp; omega
/-- one run of rising ones, seen from the k runs ahead -/
theorem rising_at : ∀ (l : List (Nat × Nat)) (lo k : Nat) (p : Nat × Nat), Rising lo l → l[k]? = some p → top lo (l.take k) ≤ p.1 ∧ p.1 ≤ p.2 ∧ p.2 + 2 ≤ top lo l
  | [], _, _, _, _, h => by simp at h
  | q :: r, lo, 0, p, hr, h => by
    simp at h
    subst h
    obtain ⟨h1, h2, h3⟩ := hr
    refine ⟨h1, h2, ?_⟩
    rw [top]
    clear h1 h2
    generalize q.2 + 2 = t at h3 ⊢
    clear q lo
    induction r generalizing t with
    | nil => exact Nat.le_refl _
    | cons s r ih => obtain ⟨a, b, c⟩ := h3; have := ih _ c; rw [top]; omega
  | q :: r, lo, k + 1, p, hr, h => by
    have := rising_at r (q.2 + 2) k p hr.2.2 (by simpa using h)
    simpa [top] using this
theorem flat_take {l : List (Nat × Nat)} {k : Nat} {p : Nat × Nat} (h : l[k]? = some p) : flat (l.take (k + 1)) = flat (l.take k) ++ nums p := by
  rw [List.take_add_one, h]
  simp [flat]
theorem top_take {l : List (Nat × Nat)} {lo k : Nat} {p : Nat × Nat} (h : l[k]? = some p) : top lo (l.take (k + 1)) = p.2 + 2 := by
  rw [List.take_add_one, h]
  exact top_app _ _ _
end Ds
