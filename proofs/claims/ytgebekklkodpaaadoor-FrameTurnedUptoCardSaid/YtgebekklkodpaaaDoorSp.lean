/- plain: what Decode says of a block with one other byte -/
import Derived.Test.YtgebekklkodpaaaDoorDl
namespace Go.Proofs.YtgebekklkodpaaaDoor
open Go.RowKit

theorem flip_inj {a b : Nat} (h : flip a = flip b) : a = b := by rw [← flip_flip a, h, flip_flip]
/-- one other byte: another sum -/
theorem sum_turn {x y : Nat} {xs bs : List Nat} (ha : ∀ z ∈ xs, z < 256) (hx : x < 256) (hy : y < 256) (h : sum (xs ++ x :: bs) = sum (xs ++ y :: bs)) : x = y := by
  rw [sum_eq, sum_eq] at h
  exact Crc.run_turn (by decide) (by decide) (flip_lt (by omega)) ha hx hy (flip_inj h)
theorem wordAt_four (A X : List Nat) (k a b c d : Nat) (hk : A.length = k) : wordAt (A ++ ([a, b, c, d] ++ X)) k = wordOf a b c d := by
  unfold wordAt
  have h0 := getD_app_right A ([a, b, c, d] ++ X) k 0 hk
  rw [Nat.add_zero] at h0
  rw [h0, getD_app_right A _ k 1 hk, getD_app_right A _ k 2 hk, getD_app_right A _ k 3 hk]
  rfl
/-- a block's form with a wrong sum -/
theorem dec_form (t : Nat) (body : List Nat) (a b c d : Nat) (h0 : t ≠ 0) (hl : body.length < 18446744073709551616) (hw : wordOf a b c d ≠ sum (encHead t body)) :
    dec (encHead t body ++ [a, b, c, d]) = .inl 6 := by
  have hhead : encHead t body = t :: (Uv.uv body.length ++ body) := by simp [encHead]
  have happ : encHead t body ++ [a, b, c, d] = t :: (Uv.uv body.length ++ (body ++ [a, b, c, d])) := by rw [hhead]; simp
  have hn := Nm.num_uv body.length hl (body ++ [a, b, c, d])
  have htake : (Uv.uv body.length ++ (body ++ [a, b, c, d])).take (Uv.uv body.length).length = Uv.uv body.length := by simp
  have hlen : (encHead t body).length = 1 + (Uv.uv body.length).length + body.length := by rw [hhead]; simp; omega
  rw [happ, dec, if_neg h0, hn]
  simp only [htake, Nm.val_uv body.length hl]
  rw [if_neg (by simp), if_neg (by simp; omega), ← happ]
  have h4 := wordAt_four (encHead t body) [] _ a b c d hlen
  rw [List.append_nil] at h4
  have ht : (encHead t body ++ [a, b, c, d]).take (1 + (Uv.uv body.length).length + body.length) = encHead t body := by rw [← hlen]; simp
  rw [h4, ht, if_pos hw]
/-- the place that is spoilt -/
def spotOf (len body k : Nat) : Nat := if k = 0 then 0 else len - 4 - body + k - 1
theorem wordOf_inj {a b c d a' b' c' d' : Nat} (ha : a < 256) (hb : b < 256) (hc : c < 256) (_ : d < 256) (ha' : a' < 256) (hb' : b' < 256) (hc' : c' < 256) (_ : d' < 256)
    (h : wordOf a b c d = wordOf a' b' c' d') : a = a' ∧ b = b' ∧ c = c' ∧ d = d' := by
  unfold wordOf at h
  omega
theorem split_at {l : List Nat} {i : Nat} (h : i < l.length) (y : Nat) : ∃ xs x bs, l = xs ++ x :: bs ∧ xs.length = i ∧ l.set i y = xs ++ y :: bs ∧ l[i]? = some x := by
  refine ⟨l.take i, l[i], l.drop (i + 1), ?_, by rw [List.length_take]; omega, ?_, List.getElem?_eq_getElem h⟩
  · rw [← List.drop_eq_getElem_cons h, List.take_append_drop]
  · rw [List.set_eq_take_append_cons_drop, if_pos h]
theorem dec_spoilt (tag : Nat) (body : List Nat) (k y : Nat) (h0 : tag ≠ 0) (ht : tag < 256) (hb : ∀ x ∈ body, x < 256) (hl : body.length < 18446744073709551616)
    (hk : k < 1 + body.length + 4) (hy : y < 256) (hne : (enc tag body)[spotOf (enc tag body).length body.length k]? ≠ some y) :
    dec ((enc tag body).set (spotOf (enc tag body).length body.length k) y) =
      .inl (if ((enc tag body).set (spotOf (enc tag body).length body.length k) y).getD 0 0 = 0 then 0 else 6) := by
  have hhead : encHead tag body = tag :: (Uv.uv body.length ++ body) := by simp [encHead]
  have hH : ∀ x ∈ encHead tag body, x < 256 := encHead_lt ht hb hl
  have hS : sum (encHead tag body) < 4294967296 := sum_lt hH
  have hu := Uv.uv_len body.length
  have hulen : ∀ x ∈ Uv.uv body.length, x < 256 := Uv.uv_lt _ hl
  have hlen := enc_length tag body
  have henc : enc tag body = encHead tag body ++ Uv.word (sum (encHead tag body)) := rfl
  have hwb := word_bytes (sum (encHead tag body)) hS
  generalize hSS : sum (encHead tag body) = S at *
  have hwe : Uv.word S = [S % 256, S / 256 % 256, S / 65536 % 256, S / 16777216 % 256] := rfl
  by_cases hk0 : k = 0
  · subst hk0
    rw [show spotOf (enc tag body).length body.length 0 = 0 from rfl] at hne ⊢
    have hset : (enc tag body).set 0 y = encHead y body ++ Uv.word S := by
      rw [henc, hhead]
      simp [encHead]
    have hget : (enc tag body)[0]? = some tag := by rw [henc, hhead]; rfl
    rw [hset]
    rw [hget] at hne
    have hyt : tag ≠ y := fun e => hne (by rw [e])
    have hg0 : (encHead y body ++ Uv.word S).getD 0 0 = y := by simp [encHead]
    rw [hg0]
    by_cases hy0 : y = 0
    · subst hy0
      rw [if_pos rfl]
      simp [encHead, dec]
    · rw [if_neg hy0, hwe, dec_form y body _ _ _ _ hy0 hl]
      rw [hwb, ← hSS, hhead]
      intro h
      refine hyt (sum_turn (xs := []) (bs := Uv.uv body.length ++ body) (fun _ h => by simp at h) ht hy ?_)
      simpa [encHead] using h
  · have hsp : spotOf (enc tag body).length body.length k = (enc tag body).length - 4 - body.length + k - 1 := if_neg hk0
    rw [hsp] at hne ⊢
    have hg0 : ((enc tag body).set ((enc tag body).length - 4 - body.length + k - 1) y).getD 0 0 = tag := by
      rw [List.getD_eq_getElem?_getD, List.getElem?_set_ne (by omega), henc, hhead]
      rfl
    rw [hg0, if_neg h0]
    by_cases hkb : k ≤ body.length
    · obtain ⟨xs, x, bs, hbody, hxs, hset, hx⟩ := split_at (show k - 1 < body.length by omega) y
      have hspot : (enc tag body).length - 4 - body.length + k - 1 = (tag :: Uv.uv body.length).length + (k - 1) := by simp only [List.length_cons]; omega
      have henc2 : enc tag body = (tag :: Uv.uv body.length) ++ (body ++ Uv.word S) := by rw [henc, hhead]; simp
      rw [hspot, henc2] at hne ⊢
      rw [List.getElem?_append_right (by omega), Nat.add_sub_cancel_left, List.getElem?_append_left (by omega), hx] at hne
      rw [List.set_append_right _ _ (by omega), Nat.add_sub_cancel_left, List.set_append_left _ _ (by omega), hset]
      have hl2 : (xs ++ y :: bs).length = body.length := by rw [hbody]; simp
      have hform : tag :: Uv.uv body.length ++ (xs ++ y :: bs ++ Uv.word S) = encHead tag (xs ++ y :: bs) ++ Uv.word S := by
        rw [encHead, hl2]; simp
      rw [hform, hwe]
      refine dec_form tag _ _ _ _ _ h0 (by omega) ?_
      rw [hwb, ← hSS, hhead, encHead, hl2]
      intro h
      refine hne ?_
      have := sum_turn (x := x) (y := y) (xs := tag :: (Uv.uv body.length ++ xs)) (bs := bs) ?_ ?_ hy ?_
      · rw [this]
      · intro z hz
        rcases List.mem_cons.1 hz with rfl | hz
        · exact ht
        · rcases List.mem_append.1 hz with hz | hz
          · exact hulen z hz
          · exact hb z (by rw [hbody]; exact List.mem_append_left _ hz)
      · exact hb x (List.mem_of_getElem? hx)
      · have e1 : tag :: (Uv.uv body.length ++ xs) ++ x :: bs = tag :: (Uv.uv body.length ++ body) := by
          conv => rhs; rw [hbody]
          simp [hbody]
        have e2 : tag :: (Uv.uv body.length ++ xs) ++ y :: bs = [tag] ++ Uv.uv body.length ++ (xs ++ y :: bs) := by simp
        rw [e1, e2, h]
    · have hspot : (enc tag body).length - 4 - body.length + k - 1 = (encHead tag body).length + (k - 1 - body.length) := by
        rw [hlen]
        have : (encHead tag body).length = 1 + (Uv.uv body.length).length + body.length := by rw [hhead]; simp; omega
        omega
      obtain ⟨m, hm⟩ : ∃ m, k - 1 - body.length = m := ⟨_, rfl⟩
      have hm4 : m < 4 := by omega
      rw [hspot, hm, henc] at hne ⊢
      rw [List.getElem?_append_right (by omega), Nat.add_sub_cancel_left] at hne
      rw [List.set_append_right _ _ (by omega), Nat.add_sub_cancel_left, hwe]
      rw [hwe] at hne
      have b0 : S % 256 < 256 := by omega
      have b1 : S / 256 % 256 < 256 := by omega
      have b2 : S / 65536 % 256 < 256 := by omega
      have b3 : S / 16777216 % 256 < 256 := by omega
      rcases m with _ | _ | _ | _ | m
      · refine dec_form tag _ _ _ _ _ h0 hl fun h => hne ?_
        rw [hSS] at h
        have := (wordOf_inj hy b1 b2 b3 b0 b1 b2 b3 (h.trans hwb.symm)).1
        rw [this]; rfl
      · refine dec_form tag _ _ _ _ _ h0 hl fun h => hne ?_
        rw [hSS] at h
        have := (wordOf_inj b0 hy b2 b3 b0 b1 b2 b3 (h.trans hwb.symm)).2.1
        rw [this]; rfl
      · refine dec_form tag _ _ _ _ _ h0 hl fun h => hne ?_
        rw [hSS] at h
        have := (wordOf_inj b0 b1 hy b3 b0 b1 b2 b3 (h.trans hwb.symm)).2.2.1
        rw [this]; rfl
      · refine dec_form tag _ _ _ _ _ h0 hl fun h => hne ?_
        rw [hSS] at h
        have := (wordOf_inj b0 b1 b2 hy b0 b1 b2 b3 (h.trans hwb.symm)).2.2.2
        rw [this]; rfl
      · omega
end Go.Proofs.YtgebekklkodpaaaDoor
