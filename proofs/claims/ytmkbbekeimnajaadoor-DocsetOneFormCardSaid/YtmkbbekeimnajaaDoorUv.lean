/- plain: a number's bytes -/
namespace Uv
/-- seven bits a byte, the lowest first; at most f + 1 bytes -/
def uvf : Nat → Nat → List Nat
  | 0, x => [x]
  | f + 1, x => if x < 128 then [x] else (x % 128 + 128) :: uvf f (x / 128)
def uv (x : Nat) : List Nat := uvf 9 x
theorem uvf_small (f x : Nat) (h : x < 128) : uvf f x = [x] := by
  cases f with
  | zero => rfl
  | succ f => rw [uvf, if_pos h]
theorem uvf_great (f x : Nat) (h : 128 ≤ x) : uvf (f + 1) x = (x % 128 + 128) :: uvf f (x / 128) := by rw [uvf, if_neg (by omega)]
theorem uvf_lt : ∀ (f x : Nat), x < 128 ^ (f + 1) → ∀ y ∈ uvf f x, y < 256
  | 0, x, h, y, hy => by
    simp [uvf] at hy
    subst hy
    simp at h
    omega
  | f + 1, x, h, y, hy => by
    by_cases hx : x < 128
    · rw [uvf_small _ _ hx] at hy; simp at hy; omega
    · rw [uvf_great _ _ (by omega)] at hy
      rcases List.mem_cons.1 hy with rfl | hy
      · omega
      · refine uvf_lt f (x / 128) ?_ y hy
        rw [Nat.div_lt_iff_lt_mul (by omega)]
        rw [Nat.pow_succ] at h
        exact h
theorem uv_lt (x : Nat) (h : x < 18446744073709551616) : ∀ y ∈ uv x, y < 256 := uvf_lt 9 x (by omega)
theorem uvf_len : ∀ (f x : Nat), (uvf f x).length ≤ f + 1 ∧ 1 ≤ (uvf f x).length
  | 0, x => by simp [uvf]
  | f + 1, x => by
    have := uvf_len f (x / 128)
    rw [uvf]
    split <;> simp <;> omega
theorem uv_len (x : Nat) : (uv x).length ≤ 10 ∧ 1 ≤ (uv x).length := uvf_len 9 x
theorem or128 : ∀ y, y < 256 → y ||| 128 = y % 128 + 128 := by decide +kernel
/-- the four bytes of a word -/
def word (v : Nat) : List Nat := [v % 256, v / 256 % 256, v / 65536 % 256, v / 16777216 % 256]
/-- the numbers of 64 bits are below this -/
def u64 : Nat := 18446744073709551616
theorem u64_eq : u64 = 18446744073709551616 := rfl
theorem half_u64 {x : Nat} (k : Nat) (h : x < u64) : x / k < u64 := Nat.lt_of_le_of_lt (Nat.div_le_self _ _) h
theorem start_u64 {x : Nat} (h : x < u64) : x < 128 ^ (9 + 1) := by rw [u64_eq] at h; omega
end Uv
