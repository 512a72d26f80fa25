/- plain: what Decode takes and what Encode makes; what a turned byte does -/
import Derived.Test.YtgebekklkodpaaaDoorLk
import Derived.Test.YtgebekklkodpaaaDoorAlg
namespace Go.Proofs.YtgebekklkodpaaaDoor
open Go.RowKit

namespace Nm
theorem num_uvf : ∀ (g i x : Nat) (pre rest : List Nat), pre.length = i → i + g = 9 → x * 128 ^ i < 18446744073709551616 → (i = 0 ∨ 0 < x) →
    num (g + 1) i (pre ++ Uv.uvf g x ++ rest) = (i + (Uv.uvf g x).length, 0)
  | 0, i, x, pre, rest, hp, hi, hx, h0 => by
    obtain rfl : i = 9 := by omega
    have e9 : (128 : Nat) ^ 9 = 9223372036854775808 := by decide
    have hx1 : x ≤ 1 := by rw [e9] at hx; omega
    have hget : (pre ++ Uv.uvf 0 x ++ rest)[9]? = some x := by
      rw [List.append_assoc, List.getElem?_append_right (by omega), hp]; rfl
    rw [num, hget]
    simp only
    rw [if_neg (by omega), if_neg (by omega), if_neg (by omega)]
    rfl
  | g + 1, i, x, pre, rest, hp, hi, hx, h0 => by
    by_cases hs : x < 128
    · have hget : (pre ++ Uv.uvf (g + 1) x ++ rest)[i]? = some x := by
        rw [Uv.uvf_small _ _ hs, List.append_assoc, List.getElem?_append_right (by omega), hp, Nat.sub_self]; rfl
      rw [num, hget, Uv.uvf_small _ _ hs]
      simp only
      rw [if_neg (by omega), if_neg (by omega), if_neg (by omega)]
      rfl
    · have hu := Uv.uvf_great g x (by omega)
      have hget : (pre ++ Uv.uvf (g + 1) x ++ rest)[i]? = some (x % 128 + 128) := by
        rw [hu, List.append_assoc, List.getElem?_append_right (by omega), hp, Nat.sub_self]; rfl
      rw [num, hget]
      simp only
      rw [if_neg (by omega), if_pos (by omega), hu]
      have := num_uvf g (i + 1) (x / 128) (pre ++ [x % 128 + 128]) rest (by simp [hp]) (by omega)
        (by
          refine Nat.lt_of_le_of_lt ?_ hx
          rw [Nat.pow_succ, Nat.mul_comm (128 ^ i), ← Nat.mul_assoc]
          exact Nat.mul_le_mul_right _ (Nat.div_mul_le_self _ _)) (.inr (by omega))
      rw [show pre ++ (x % 128 + 128) :: Uv.uvf g (x / 128) ++ rest = pre ++ [x % 128 + 128] ++ Uv.uvf g (x / 128) ++ rest by simp, this]
      simp only [List.length_cons, Prod.mk.injEq, and_true]
      omega
theorem val_uvf : ∀ (g x : Nat), x < 128 ^ (g + 1) → val (Uv.uvf g x) = x
  | 0, x, h => by
    simp only [Uv.uvf, val]
    simp at h
    omega
  | g + 1, x, h => by
    by_cases hs : x < 128
    · rw [Uv.uvf_small _ _ hs]; simp only [val]; omega
    · rw [Uv.uvf_great _ _ (by omega), val, val_uvf g (x / 128) (by rw [Nat.div_lt_iff_lt_mul (by omega)]; rw [Nat.pow_succ] at h; exact h)]
      omega
theorem num_uv (x : Nat) (hx : x < 18446744073709551616) (rest : List Nat) : num 10 0 (Uv.uv x ++ rest) = ((Uv.uv x).length, 0) := by
  have := num_uvf 9 0 x [] rest rfl rfl (by omega) (.inl rfl)
  rw [List.nil_append, Nat.zero_add] at this
  exact this
theorem val_uv (x : Nat) (hx : x < 18446744073709551616) : val (Uv.uv x) = x := val_uvf 9 x (by
  have e : (128 : Nat) ^ (9 + 1) = 1180591620717411303424 := by decide
  omega)
theorem take_drop_cons {l : List Nat} {i n x : Nat} (h : l[i]? = some x) (hn : i < n) : (l.take n).drop i = x :: (l.take n).drop (i + 1) := by
  have hg : (l.take n)[i]? = some x := by rw [List.getElem?_take, if_pos hn, h]
  rw [List.drop_eq_getElem?_toList_append, hg]
  rfl
/-- what is taken is made again -/
theorem uv_num : ∀ (g i n : Nat) (bs : List Nat), (∀ x ∈ bs, x < 256) → i + g = 9 → num (g + 1) i bs = (n, 0) →
    Uv.uvf g (val ((bs.take n).drop i)) = (bs.take n).drop i ∧ (0 < i → 0 < val ((bs.take n).drop i))
  | g, i, n, bs, hb, hi, h => by
    have hok := num_ok (by omega) h
    rw [num] at h
    cases hx : bs[i]? with
    | none => rw [hx] at h; simp at h
    | some x =>
      have hxb := hb x (List.mem_of_getElem? hx)
      rw [hx] at h
      simp only at h
      rw [take_drop_cons hx hok.1]
      split at h
      · simp at h
      · split at h
        · cases g with
          | zero => simp [num] at h
          | succ g =>
            obtain ⟨h1, h2⟩ := uv_num g (i + 1) n bs hb (by omega) h
            have h3 := h2 (by omega)
            rw [val]
            refine ⟨?_, fun _ => by omega⟩
            rw [Uv.uvf_great _ _ (by omega)]
            rw [show (x % 128 + 128 * val ((bs.take n).drop (i + 1))) / 128 = val ((bs.take n).drop (i + 1)) by omega, h1]
            congr 1
            omega
        · split at h
          · simp at h
          · simp only [Prod.mk.injEq, and_true] at h
            subst h
            have hnil : (bs.take (i + 1)).drop (i + 1) = [] := by
              apply List.drop_eq_nil_of_le
              rw [List.length_take]; omega
            rw [hnil]
            simp only [val]
            refine ⟨?_, fun _ => by omega⟩
            rw [Uv.uvf_small _ _ (by omega)]
            congr 1
            omega
theorem uv_of_num {n : Nat} {bs : List Nat} (hb : ∀ x ∈ bs, x < 256) (h : num 10 0 bs = (n, 0)) : Uv.uv (val (bs.take n)) = bs.take n := by
  have := (uv_num 9 0 n bs hb rfl h).1
  rw [List.drop_zero] at this
  exact this
end Nm

theorem getD_app_right (A X : List Nat) (k j : Nat) (hk : A.length = k) : (A ++ X).getD (k + j) 0 = X.getD j 0 := by
  simp only [List.getD_eq_getElem?_getD]
  rw [List.getElem?_append_right (by omega), hk, Nat.add_sub_cancel_left]
theorem wordAt_app (A X : List Nat) (k S : Nat) (hk : A.length = k) (hS : S < 4294967296) : wordAt (A ++ (Uv.word S ++ X)) k = S := by
  unfold wordAt
  have h0 := getD_app_right A (Uv.word S ++ X) k 0 hk
  rw [Nat.add_zero] at h0
  rw [h0, getD_app_right A _ k 1 hk, getD_app_right A _ k 2 hk, getD_app_right A _ k 3 hk]
  exact word_bytes S hS
theorem word_wordOf {a b c d : Nat} (ha : a < 256) (hb : b < 256) (hc : c < 256) (hd : d < 256) : Uv.word (wordOf a b c d) = [a, b, c, d] := by
  unfold wordOf Uv.word
  congr 1
  · omega
  · congr 1
    · omega
    · congr 1
      · omega
      · congr 1
        omega
theorem four_drop {b : List Nat} {j : Nat} (h : j + 4 ≤ b.length) : (b.drop j).take 4 = [b.getD j 0, b.getD (j + 1) 0, b.getD (j + 2) 0, b.getD (j + 3) 0] := by
  apply List.ext_getElem?
  intro k
  simp only [List.getD_eq_getElem?_getD]
  rcases k with _ | _ | _ | _ | k
  · simp [List.getElem?_eq_getElem (show j < b.length by omega)]
  · simp [List.getElem?_eq_getElem (show j + 1 < b.length by omega)]
  · simp [List.getElem?_eq_getElem (show j + 2 < b.length by omega)]
  · simp [List.getElem?_eq_getElem (show j + 3 < b.length by omega)]
  · simp [List.getElem?_take]
    intro h
    omega

/-- Decode of what Encode made, with anything behind -/
theorem dec_enc (tag : Nat) (body rest : List Nat) (h0 : tag ≠ 0) (ht : tag < 256) (hb : ∀ x ∈ body, x < 256) (hl : body.length < 18446744073709551616) :
    dec (enc tag body ++ rest) = .inr (1 + (Uv.uv body.length).length, 1 + (Uv.uv body.length).length + body.length) := by
  have hS : sum (encHead tag body) < 4294967296 := sum_lt (encHead_lt ht hb hl)
  have hhead : encHead tag body = tag :: (Uv.uv body.length ++ body) := by simp [encHead]
  have hb0 : enc tag body ++ rest = tag :: (Uv.uv body.length ++ (body ++ (Uv.word (sum (encHead tag body)) ++ rest))) := by
    unfold enc
    rw [hhead]
    simp
  have hn := Nm.num_uv body.length hl (body ++ (Uv.word (sum (encHead tag body)) ++ rest))
  have htake : (Uv.uv body.length ++ (body ++ (Uv.word (sum (encHead tag body)) ++ rest))).take (Uv.uv body.length).length = Uv.uv body.length := by simp
  have hlen : (encHead tag body).length = 1 + (Uv.uv body.length).length + body.length := by rw [hhead]; simp; omega
  have happ : tag :: (Uv.uv body.length ++ (body ++ (Uv.word (sum (encHead tag body)) ++ rest))) = encHead tag body ++ (Uv.word (sum (encHead tag body)) ++ rest) := by
    rw [hhead]; simp
  rw [hb0, dec, if_neg h0, hn]
  simp only [htake, Nm.val_uv body.length hl]
  rw [if_neg (by simp), if_neg (by simp [Uv.word]; omega), happ, wordAt_app _ _ _ _ hlen hS, ← hlen, List.take_left']
  · simp
  · rfl
theorem enc_length (tag : Nat) (body : List Nat) : (enc tag body).length = 1 + (Uv.uv body.length).length + body.length + 4 := by
  simp [enc, encHead, Uv.word]
  omega

/-- what Decode takes Encode makes again -/
theorem dec_ok {b : List Nat} {i j : Nat} (hb : ∀ x ∈ b, x < 256) (h : dec b = .inr (i, j)) :
    ∃ t r, b = t :: r ∧ t ≠ 0 ∧ i ≤ j ∧ j + 4 ≤ b.length ∧ 2 ≤ i ∧ enc t ((b.take j).drop i) = b.take (j + 4) := by
  cases b with
  | nil => simp [dec] at h
  | cons t r =>
    rw [dec] at h
    split at h
    · simp at h
    · rename_i ht
      split at h
      · simp at h
      · rename_i hn0
        split at h
        · simp at h
        · rename_i hlen
          split at h
          · simp at h
          · rename_i hw
            obtain ⟨n, e⟩ : ∃ n, Nm.num 10 0 r = (n, 0) := ⟨(Nm.num 10 0 r).1, Prod.ext rfl (by simpa using hn0)⟩
            rw [e] at h hlen hw
            simp only [Sum.inr.injEq, Prod.mk.injEq] at h
            simp only at hlen hw
            have hw := Classical.not_not.1 hw
            obtain ⟨rfl, rfl⟩ := h
            have hr : ∀ x ∈ r, x < 256 := fun x hx => hb x (List.mem_cons_of_mem _ hx)
            have hnn := Nm.num_ok (by omega) e
            have huv := Nm.uv_of_num hr e
            generalize hv : Nm.val (r.take n) = v at *
            have hlen' : n + v + 4 ≤ r.length := by simp at hlen; omega
            refine ⟨t, r, rfl, ht, by omega, by simp; omega, by omega, ?_⟩
            have hbody : ((t :: r).take (1 + n + v)).drop (1 + n) = (r.take (n + v)).drop n := by
              rw [show 1 + n + v = (n + v) + 1 by omega, show 1 + n = n + 1 by omega]; rfl
            have hbl : ((r.take (n + v)).drop n).length = v := by rw [List.length_drop, List.length_take]; omega
            have hhead : encHead t ((r.take (n + v)).drop n) = (t :: r).take (1 + n + v) := by
              rw [encHead, hbl, huv, show 1 + n + v = (n + v) + 1 by omega, List.take_succ_cons]
              have : r.take n = (r.take (n + v)).take n := by rw [List.take_take, Nat.min_eq_left (by omega)]
              rw [this, List.append_assoc, List.take_append_drop]
              rfl
            have h4 : (t :: r).take (1 + n + v + 4) = (t :: r).take (1 + n + v) ++ ((t :: r).drop (1 + n + v)).take 4 := List.take_add
            rw [hbody, enc, hhead, ← hw, h4, four_drop (by simp; omega), wordAt, word_wordOf]
            all_goals
              rw [List.getD_eq_getElem?_getD]
              rw [List.getElem?_eq_getElem (by simp; omega)]
              exact hb _ (List.getElem_mem _)
end Go.Proofs.YtgebekklkodpaaaDoor
