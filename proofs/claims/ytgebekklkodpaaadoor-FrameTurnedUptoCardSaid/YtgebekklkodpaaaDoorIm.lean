/- plain: what Unpack takes Pack makes again; an image gives its blocks back; a turned byte is refused -/
import Derived.Test.YtgebekklkodpaaaDoorUn
import Derived.Test.YtgebekklkodpaaaDoorSp
namespace Go.Proofs.YtgebekklkodpaaaDoor
open Go.RowKit

theorem blks_ok {n : Nat} {r : List Nat} {bl : List Bl} (hr : ∀ x ∈ r, x < 256) (h : blks n r = .inr bl) :
    bl.length = n ∧ encs bl = r ∧ ∀ x ∈ bl, x.1 ≠ 0 ∧ x.1 < 256 ∧ (∀ y ∈ x.2, y < 256) ∧ x.2.length + 6 ≤ (enc x.1 x.2).length := by
  induction n generalizing r bl with
  | zero =>
    rw [blks] at h
    split at h
    · rename_i h0
      cases h
      exact ⟨rfl, by rw [h0]; rfl, fun x hx => by cases hx⟩
    · cases h
  | succ n ih =>
    rw [blks] at h
    split at h
    · cases h
    · rename_i i j hd
      split at h
      · cases h
      · rename_i bl' hb
        cases h
        obtain ⟨t, r2, rfl, ht, hij, hjl, _, henc⟩ := dec_ok hr hd
        obtain ⟨h1, h2, h3⟩ := ih (fun x hx => hr x (List.mem_of_mem_drop hx)) hb
        refine ⟨by rw [List.length_cons, h1], ?_, ?_⟩
        · rw [encs, List.flatMap_cons]
          show enc t (((t :: r2).take j).drop i) ++ encs bl' = _
          rw [henc, h2, List.take_append_drop]
        · intro x hx
          rcases List.mem_cons.1 hx with rfl | hx
          · refine ⟨ht, hr t (List.mem_cons_self ..), fun y hy => hr y (List.mem_of_mem_take (List.mem_of_mem_drop hy)), ?_⟩
            have := Uv.uv_len (((t :: r2).take j).drop i).length
            show _ ≤ (enc t _).length
            rw [enc_length]
            simp only
            omega
          · exact h3 x hx
theorem tot_encs {bl : List Bl} (h : ∀ x ∈ bl, x.2.length + 6 ≤ (enc x.1 x.2).length) : tot bl ≤ 3 * (encs bl).length := by
  induction bl with
  | nil => simp [tot]
  | cons x r ih =>
    have h1 := h x (List.mem_cons_self ..)
    have h2 := ih fun y hy => h y (List.mem_cons_of_mem _ hy)
    simp only [tot, encs, List.map_cons, List.sum_cons, List.flatMap_cons, List.length_append] at *
    omega
theorem split4 {im : List Nat} {e : Nat} (he : im.length = e + 4) (hx : ∀ x ∈ im, x < 256) : im = im.take e ++ Uv.word (wordAt im e) := by
  have hg : ∀ k, k < 4 → im.getD (e + k) 0 < 256 := fun k hk => by
    rw [List.getD_eq_getElem?_getD, List.getElem?_eq_getElem (by omega)]
    exact hx _ (List.getElem_mem _)
  have g0 := hg 0 (by omega)
  rw [Nat.add_zero] at g0
  have h4 : (im.drop e).take 4 = im.drop e := List.take_of_length_le (by rw [List.length_drop]; omega)
  rw [wordAt, word_wordOf g0 (hg 1 (by omega)) (hg 2 (by omega)) (hg 3 (by omega)), ← four_drop (by omega), h4, List.take_append_drop]
/-- what is taken is made again -/
theorem unp_img {kind : Nat} {im : List Nat} {bl : List Bl} (hx : ∀ x ∈ im, x < 256) (h : unp kind im = .inr bl) :
    img kind bl = im ∧ kind ≠ 0 ∧ tot bl ≤ 3 * im.length ∧ ∀ x ∈ bl, x.1 ≠ 0 ∧ x.1 < 256 ∧ (∀ y ∈ x.2, y < 256) := by
  rw [unp] at h
  split at h
  · cases h
  · rename_i h10
    obtain ⟨e, he⟩ : ∃ e, im.length = e + 4 := ⟨im.length - 4, by omega⟩
    rw [he, Nat.add_sub_cancel] at h
    split at h
    · cases h
    · rename_i hw
      have hw := Classical.not_not.1 hw
      split at h
      · cases h
      · rename_i hA
        split at h
        · cases h
        · rename_i hn
          have hk0 : kind ≠ 0 := fun h => hA (.inl h)
          have ht : im.take 4 = [99, 110, 99, 100] := Classical.byContradiction fun h => hA (.inr (.inl h))
          have hy : im.getD 4 0 = kind := Classical.byContradiction fun h => hA (.inr (.inr h))
          have hRx : ∀ x ∈ (im.take e).drop 5, x < 256 := fun x hx' => hx x (List.mem_of_mem_take (List.mem_of_mem_drop hx'))
          have hd5 : (im.take e).take 5 = [99, 110, 99, 100] ++ [kind] := by
            rw [List.take_take, Nat.min_eq_left (by omega), List.take_add_one, ht, ← hy, List.getD_eq_getElem?_getD, List.getElem?_eq_getElem (by omega)]
            rfl
          have hsplit : im.take e = ([99, 110, 99, 100] ++ [kind]) ++ (im.take e).drop 5 := by rw [← hd5, List.take_append_drop]
          have hRl : ((im.take e).drop 5).length = e - 5 := by rw [List.length_drop, List.length_take]; omega
          generalize (im.take e).drop 5 = R at hn h hRx hsplit hRl
          obtain ⟨n, hn0⟩ : ∃ n, Nm.num 10 0 R = (n, 0) := ⟨(Nm.num 10 0 R).1, Prod.ext rfl (by simpa using hn)⟩
          rw [hn0] at h
          simp only at h
          have huv := Nm.uv_of_num hRx hn0
          obtain ⟨h1, h2, h3⟩ := blks_ok (fun x hx' => hRx x (List.mem_of_mem_drop hx')) h
          have hbody : imgBody kind bl = im.take e := by
            rw [imgBody, imgHead, h1, huv, h2, List.append_assoc, List.take_append_drop, ← hsplit]
          refine ⟨?_, hk0, ?_, fun x hx' => ⟨(h3 x hx').1, (h3 x hx').2.1, (h3 x hx').2.2.1⟩⟩
          · rw [img, hbody, ← hw, ← split4 he hx]
          · have := tot_encs fun x hx' => (h3 x hx').2.2.2
            rw [h2, List.length_drop] at this
            omega
theorem enc_body' (tag : Nat) (body rest : List Nat) : ((enc tag body ++ rest).take (1 + (Uv.uv body.length).length + body.length)).drop (1 + (Uv.uv body.length).length) = body := by
  have e : enc tag body ++ rest = (([tag] ++ Uv.uv body.length) ++ body) ++ (Uv.word (sum (encHead tag body)) ++ rest) := by simp [enc, encHead]
  have hA : ([tag] ++ Uv.uv body.length).length = 1 + (Uv.uv body.length).length := by simp; omega
  rw [e, List.take_left' (by simp; omega), List.drop_left' hA]
theorem blks_encs (bl : List Bl) (h : ∀ x ∈ bl, x.1 ≠ 0 ∧ x.1 < 256 ∧ (∀ y ∈ x.2, y < 256) ∧ x.2.length < 18446744073709551616) : blks bl.length (encs bl) = .inr bl := by
  induction bl with
  | nil => rfl
  | cons x r ih =>
    obtain ⟨h0, h1, h2, h3⟩ := h x (List.mem_cons_self ..)
    have hd := dec_enc x.1 x.2 (encs r) h0 h1 h2 h3
    have he : encs (x :: r) = enc x.1 x.2 ++ encs r := rfl
    have hlen := enc_length x.1 x.2
    rw [List.length_cons, blks, he, hd]
    simp only
    rw [List.drop_left' (by omega), ih fun y hy => h y (List.mem_cons_of_mem _ hy)]
    simp only [Sum.inr.injEq, List.cons.injEq, and_true]
    have hb := enc_body' x.1 x.2 (encs r)
    rw [hb]
    have hg : (enc x.1 x.2 ++ encs r).getD 0 0 = x.1 := by simp [enc, encHead]
    rw [hg]
/-- an image's parts -/
theorem img_parts (kind : Nat) (bl : List Bl) : (imgBody kind bl).length ≥ 6 ∧ (img kind bl).length = (imgBody kind bl).length + 4 ∧ (img kind bl).take (imgBody kind bl).length = imgBody kind bl ∧ (img kind bl).take 4 = [99, 110, 99, 100] ∧ (img kind bl).getD 4 0 = kind := by
  have hu := Uv.uv_len bl.length
  refine ⟨?_, ?_, ?_, rfl, rfl⟩
  · simp only [imgBody, imgHead, List.length_append, List.length_cons, List.length_nil]; omega
  · rw [img, List.length_append]; rfl
  · rw [img, List.take_left']; rfl

/-- an image gives its blocks back -/
theorem unp_whole (kind : Nat) (bl : List Bl) (hk0 : kind ≠ 0) (hk : kind < 256) (hl : bl.length < 18446744073709551616) (h : ∀ x ∈ bl, x.1 ≠ 0 ∧ x.1 < 256 ∧ (∀ y ∈ x.2, y < 256) ∧ x.2.length < 18446744073709551616) :
    unp kind (img kind bl) = .inr bl := by
  obtain ⟨h1, h2, h3, h4, h5⟩ := img_parts kind bl
  have hlt : ∀ y ∈ imgBody kind bl, y < 256 := imgBody_lt hk (by rw [Uv.u64_eq]; exact hl) fun x hx => ⟨(h x hx).2.1, (h x hx).2.2.1, by rw [Uv.u64_eq]; exact (h x hx).2.2.2⟩
  have hS := seal_lt' hlt
  have hw : wordAt (img kind bl) (imgBody kind bl).length = seal_ (imgBody kind bl) := by
    have := wordAt_app (imgBody kind bl) [] _ (seal_ (imgBody kind bl)) rfl hS
    rw [List.append_nil] at this
    exact this
  have hR : (imgBody kind bl).drop 5 = Uv.uv bl.length ++ encs bl := by
    rw [imgBody, imgHead, List.append_assoc]
    rfl
  have hn := Nm.num_uv bl.length hl (encs bl)
  rw [unp, if_neg (by omega), h2, Nat.add_sub_cancel, h3, hw, if_neg (by simp), if_neg (by rw [h4, h5]; simp [hk0]), hR, hn, if_neg (by simp)]
  simp only
  rw [List.take_left' rfl, List.drop_left' rfl, Nm.val_uv _ hl]
  exact blks_encs bl h
/-- for its kind alone -/
theorem unp_other (kind other : Nat) (bl : List Bl) (hne : other ≠ kind) (hk : kind < 256) (hl : bl.length < 18446744073709551616) (h : ∀ x ∈ bl, x.1 < 256 ∧ (∀ y ∈ x.2, y < 256) ∧ x.2.length < 18446744073709551616) :
    unp other (img kind bl) = .inl 0 := by
  obtain ⟨h1, h2, h3, h4, h5⟩ := img_parts kind bl
  have hlt : ∀ y ∈ imgBody kind bl, y < 256 := imgBody_lt hk (by rw [Uv.u64_eq]; exact hl) fun x hx => ⟨(h x hx).1, (h x hx).2.1, by rw [Uv.u64_eq]; exact (h x hx).2.2⟩
  have hS := seal_lt' hlt
  have hw : wordAt (img kind bl) (imgBody kind bl).length = seal_ (imgBody kind bl) := by
    have := wordAt_app (imgBody kind bl) [] _ (seal_ (imgBody kind bl)) rfl hS
    rw [List.append_nil] at this
    exact this
  rw [unp, if_neg (by omega), h2, Nat.add_sub_cancel, h3, hw, if_neg (by simp), if_pos (by rw [h5]; exact .inr (.inr (fun e => hne e.symm)))]
/-- one other byte: another seal -/
theorem seal_turn {x y : Nat} {xs bs : List Nat} (ha : ∀ z ∈ xs, z < 256) (hx : x < 256) (hy : y < 256) (h : seal_ (xs ++ x :: bs) = seal_ (xs ++ y :: bs)) : x = y :=
  Crc.run_turn (p := Crc.polySeal) (r := 4294967295) (by decide) (by decide) (by decide) ha hx hy (flip_inj h)
/-- a turned byte is refused, wherever it stands, whatever kind is asked -/
theorem unp_turned (kind other : Nat) (bl : List Bl) (hk : kind < 256) (hl : bl.length < 18446744073709551616) (h : ∀ x ∈ bl, x.1 < 256 ∧ (∀ y ∈ x.2, y < 256) ∧ x.2.length < 18446744073709551616)
    (k y : Nat) (hkl : k < (img kind bl).length) (hy : y < 256) (hne : (img kind bl)[k]? ≠ some y) : unp other ((img kind bl).set k y) = .inl 6 := by
  obtain ⟨h1, h2, h3, _, _⟩ := img_parts kind bl
  have hlt : ∀ y ∈ imgBody kind bl, y < 256 := imgBody_lt hk (by rw [Uv.u64_eq]; exact hl) fun x hx => ⟨(h x hx).1, (h x hx).2.1, by rw [Uv.u64_eq]; exact (h x hx).2.2⟩
  have hS := seal_lt' hlt
  have himg : img kind bl = imgBody kind bl ++ Uv.word (seal_ (imgBody kind bl)) := rfl
  have hwb := word_bytes (seal_ (imgBody kind bl)) hS
  rw [unp, if_neg (by rw [List.length_set]; omega), List.length_set, h2, Nat.add_sub_cancel, if_pos]
  rw [himg] at hne ⊢
  generalize hbd : imgBody kind bl = b at *
  by_cases hkb : k < b.length
  · obtain ⟨xs, x, bs, hb, hxs, hset, hx⟩ := split_at hkb y
    rw [List.set_append_left _ _ hkb]
    have hl2 : (b.set k y).length = b.length := List.length_set
    have hwa : wordAt (b.set k y ++ Uv.word (seal_ b)) b.length = seal_ b := by
      have := wordAt_app (b.set k y) [] b.length (seal_ b) hl2 hS
      rw [List.append_nil] at this
      exact this
    rw [hwa, List.take_left' hl2, hset]
    intro e
    rw [List.getElem?_append_left hkb, hx] at hne
    refine hne ?_
    rw [seal_turn (x := x) (y := y) (xs := xs) (bs := bs) (fun z hz => hlt z (by rw [hb]; exact List.mem_append_left _ hz)) (hlt x (List.mem_of_getElem? hx)) hy (by rw [← hb]; exact e)]
  · obtain ⟨m, hm⟩ : ∃ m, k - b.length = m := ⟨_, rfl⟩
    have hm4 : m < 4 := by omega
    have hwe : Uv.word (seal_ b) = [seal_ b % 256, seal_ b / 256 % 256, seal_ b / 65536 % 256, seal_ b / 16777216 % 256] := rfl
    rw [List.getElem?_append_right (by omega), hm, hwe] at hne
    rw [List.set_append_right _ _ (by omega), hm, List.take_left' rfl]
    have b0 : seal_ b % 256 < 256 := by omega
    have b1 : seal_ b / 256 % 256 < 256 := by omega
    have b2 : seal_ b / 65536 % 256 < 256 := by omega
    have b3 : seal_ b / 16777216 % 256 < 256 := by omega
    rw [hwe]
    rcases m with _ | _ | _ | _ | m
    · have h4 := wordAt_four b [] _ y (seal_ b / 256 % 256) (seal_ b / 65536 % 256) (seal_ b / 16777216 % 256) rfl
      rw [List.append_nil] at h4
      show wordAt (b ++ [y, seal_ b / 256 % 256, seal_ b / 65536 % 256, seal_ b / 16777216 % 256]) b.length ≠ _
      rw [h4]
      intro e
      refine hne ?_
      have := (wordOf_inj hy b1 b2 b3 b0 b1 b2 b3 (e.trans hwb.symm)).1
      rw [this]; rfl
    · have h4 := wordAt_four b [] _ (seal_ b % 256) y (seal_ b / 65536 % 256) (seal_ b / 16777216 % 256) rfl
      rw [List.append_nil] at h4
      show wordAt (b ++ [seal_ b % 256, y, seal_ b / 65536 % 256, seal_ b / 16777216 % 256]) b.length ≠ _
      rw [h4]
      intro e
      refine hne ?_
      have := (wordOf_inj b0 hy b2 b3 b0 b1 b2 b3 (e.trans hwb.symm)).2.1
      rw [this]; rfl
    · have h4 := wordAt_four b [] _ (seal_ b % 256) (seal_ b / 256 % 256) y (seal_ b / 16777216 % 256) rfl
      rw [List.append_nil] at h4
      show wordAt (b ++ [seal_ b % 256, seal_ b / 256 % 256, y, seal_ b / 16777216 % 256]) b.length ≠ _
      rw [h4]
      intro e
      refine hne ?_
      have := (wordOf_inj b0 b1 hy b3 b0 b1 b2 b3 (e.trans hwb.symm)).2.2.1
      rw [this]; rfl
    · have h4 := wordAt_four b [] _ (seal_ b % 256) (seal_ b / 256 % 256) (seal_ b / 65536 % 256) y rfl
      rw [List.append_nil] at h4
      show wordAt (b ++ [seal_ b % 256, seal_ b / 256 % 256, seal_ b / 65536 % 256, y]) b.length ≠ _
      rw [h4]
      intro e
      refine hne ?_
      have := (wordOf_inj b0 b1 b2 hy b0 b1 b2 b3 (e.trans hwb.symm)).2.2.2
      rw [this]; rfl
    · omega
end Go.Proofs.YtgebekklkodpaaaDoor
