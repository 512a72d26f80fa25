/- plain: a number of bytes and what is read of it (ported from wip/frame Dl) -/
import Derived.Test.YtmkbbekeimnajaaDoorNm
import Derived.Test.YtmkbbekeimnajaaDoorUv
namespace Go.Proofs.YtmkbbekeimnajaaDoor.Nm
theorem num_uvf : ∀ (g i x : Nat) (pre rest : List Nat), pre.length = i → i + g = 9 → x * 128 ^ i < 18446744073709551616 → (i = 0 ∨ 0 < x) →
    num (g + 1) i (pre ++ Uv.uvf g x ++ rest) = (i + (Uv.uvf g x).length, 0)
  | 0, i, x, pre, rest, hp, hi, hx, h0 => by
    obtain rfl : i = 9 := by omega
    have e9 : (128 : Nat) ^ 9 = 9223372036854775808 := by decide
    have hx1 : x ≤ 1 := by rw [e9] at hx; omega
    have hget : (pre ++ Uv.uvf 0 x ++ rest)[9]? = some x := by
      rw [List.append_assoc, List.getElem?_append_right (by omega), hp]; rfl
    rw [num, hget]
    simp only
    rw [if_neg (by omega), if_neg (by omega), if_neg (by omega)]
    rfl
  | g + 1, i, x, pre, rest, hp, hi, hx, h0 => by
    by_cases hs : x < 128
    · have hget : (pre ++ Uv.uvf (g + 1) x ++ rest)[i]? = some x := by
        rw [Uv.uvf_small _ _ hs, List.append_assoc, List.getElem?_append_right (by omega), hp, Nat.sub_self]; rfl
      rw [num, hget, Uv.uvf_small _ _ hs]
      simp only
      rw [if_neg (by omega), if_neg (by omega), if_neg (by omega)]
      rfl
    · have hu := Uv.uvf_great g x (by omega)
      have hget : (pre ++ Uv.uvf (g + 1) x ++ rest)[i]? = some (x % 128 + 128) := by
        rw [hu, List.append_assoc, List.getElem?_append_right (by omega), hp, Nat.sub_self]; rfl
      rw [num, hget]
      simp only
      rw [if_neg (by omega), if_pos (by omega), hu]
      have := num_uvf g (i + 1) (x / 128) (pre ++ [x % 128 + 128]) rest (by simp [hp]) (by omega)
        (by
          refine Nat.lt_of_le_of_lt ?_ hx
          rw [Nat.pow_succ, Nat.mul_comm (128 ^ i), ← Nat.mul_assoc]
          exact Nat.mul_le_mul_right _ (Nat.div_mul_le_self _ _)) (.inr (by omega))
      rw [show pre ++ (x % 128 + 128) :: Uv.uvf g (x / 128) ++ rest = pre ++ [x % 128 + 128] ++ Uv.uvf g (x / 128) ++ rest by simp, this]
      simp only [List.length_cons, Prod.mk.injEq, and_true]
      omega
theorem val_uvf : ∀ (g x : Nat), x < 128 ^ (g + 1) → val (Uv.uvf g x) = x
  | 0, x, h => by
    simp only [Uv.uvf, val]
    simp at h
    omega
  | g + 1, x, h => by
    by_cases hs : x < 128
    · rw [Uv.uvf_small _ _ hs]; simp only [val]; omega
    · rw [Uv.uvf_great _ _ (by omega), val, val_uvf g (x / 128) (by rw [Nat.div_lt_iff_lt_mul (by omega)]; rw [Nat.pow_succ] at h; exact h)]
      omega
theorem num_uv (x : Nat) (hx : x < 18446744073709551616) (rest : List Nat) : num 10 0 (Uv.uv x ++ rest) = ((Uv.uv x).length, 0) := by
  have := num_uvf 9 0 x [] rest rfl rfl (by omega) (.inl rfl)
  rw [List.nil_append, Nat.zero_add] at this
  exact this
theorem val_uv (x : Nat) (hx : x < 18446744073709551616) : val (Uv.uv x) = x := val_uvf 9 x (by
  have e : (128 : Nat) ^ (9 + 1) = 1180591620717411303424 := by decide
  omega)
theorem take_drop_cons {l : List Nat} {i n x : Nat} (h : l[i]? = some x) (hn : i < n) : (l.take n).drop i = x :: (l.take n).drop (i + 1) := by
  have hg : (l.take n)[i]? = some x := by rw [List.getElem?_take, if_pos hn, h]
  rw [List.drop_eq_getElem?_toList_append, hg]
  rfl
/-- what is taken is made again -/
theorem uv_num : ∀ (g i n : Nat) (bs : List Nat), (∀ x ∈ bs, x < 256) → i + g = 9 → num (g + 1) i bs = (n, 0) →
    Uv.uvf g (val ((bs.take n).drop i)) = (bs.take n).drop i ∧ (0 < i → 0 < val ((bs.take n).drop i))
  | g, i, n, bs, hb, hi, h => by
    have hok := num_ok (by omega) h
    rw [num] at h
    cases hx : bs[i]? with
    | none => rw [hx] at h; simp at h
    | some x =>
      have hxb := hb x (List.mem_of_getElem? hx)
      rw [hx] at h
      simp only at h
      rw [take_drop_cons hx hok.1]
      split at h
      · simp at h
      · split at h
        · cases g with
          | zero => simp [num] at h
          | succ g =>
            obtain ⟨h1, h2⟩ := uv_num g (i + 1) n bs hb (by omega) h
            have h3 := h2 (by omega)
            rw [val]
            refine ⟨?_, fun _ => by omega⟩
            rw [Uv.uvf_great _ _ (by omega)]
            rw [show (x % 128 + 128 * val ((bs.take n).drop (i + 1))) / 128 = val ((bs.take n).drop (i + 1)) by omega, h1]
            congr 1
            omega
        · split at h
          · simp at h
          · simp only [Prod.mk.injEq, and_true] at h
            subst h
            have hnil : (bs.take (i + 1)).drop (i + 1) = [] := by
              apply List.drop_eq_nil_of_le
              rw [List.length_take]; omega
            rw [hnil]
            simp only [val]
            refine ⟨?_, fun _ => by omega⟩
            rw [Uv.uvf_small _ _ (by omega)]
            congr 1
            omega
theorem uv_of_num {n : Nat} {bs : List Nat} (hb : ∀ x ∈ bs, x < 256) (h : num 10 0 bs = (n, 0)) : Uv.uv (val (bs.take n)) = bs.take n := by
  have := (uv_num 9 0 n bs hb rfl h).1
  rw [List.drop_zero] at this
  exact this
end Go.Proofs.YtmkbbekeimnajaaDoor.Nm
