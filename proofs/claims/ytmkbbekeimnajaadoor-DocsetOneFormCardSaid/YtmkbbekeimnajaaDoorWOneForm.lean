/- the walk of DocsetOneForm -/
import Derived.Test.YtmkbbekeimnajaaDoorDd
import Derived.Test.YtmkbbekeimnajaaDoorAlg
import Derived.Test.YtmkbbekeimnajaaDoorCl
namespace Go.Proofs.YtmkbbekeimnajaaDoor
open Go.RowKit Ds
theorem SetAt.apart {w w' : World} {S g cap n S2 g2 : Nat} {m : Nat → Bool} (h : SetAt w S g cap n m) (hf : Foot w w' (fun k => k = S2 ∨ k = g2)) (a : S ≠ S2) (b : S ≠ g2) (c : g ≠ S2) (d : g ≠ g2) : SetAt w' S g cap n m := by
  obtain ⟨cur, h1, h2, h3⟩ := h.ws
  exact ⟨(hf.block _ (heap_lt h.hd) (fun e => e.elim a b)).trans h.hd, ⟨cur, (hf.block _ (heap_lt h1) (fun e => e.elim c d)).trans h1, h2, h3⟩, h.cap, h.off, h.small⟩
theorem encS_inj {n : Nat} {m k : Nat → Bool} (h : encS n m = encS n k) : ∀ i, i < n → m i = k i := by
  have h1 : body n m (nb n) ++ [] = body n k (nb n) ++ [] := by
    have := List.append_cancel_left h
    rw [this]
  have h2 := (body_unique n m k (nb n) [] [] (Nat.le_refl _) h1).1
  exact fun i hi => h2 i hi (by unfold nb; omega)
theorem enc_ne {n i : Nat} {m : Nat → Bool} (hi : i < n) : encS n (put m i (!m i)) ≠ encS n m := fun e => by
  have := encS_inj e i hi
  unfold put at this
  rw [if_pos rfl] at this
  cases h : m i <;> rw [h] at this <;> cases this
theorem put_ne {i : Nat} {m : Nat → Bool} : m ≠ put m i (!m i) := fun e => by
  have := congrFun e i
  unfold put at this
  rw [if_pos rfl] at this
  cases h : m i <;> rw [h] at this <;> cases this
theorem bytes_diff (w : World) (v1 v2 : Value) (xs ys : List Nat) (h1 : Src w v1 xs) (h2 : Src w v2 ys) (hne : xs ≠ ys) :
    Calls Tryd.prog 28 #[v1, v2] w fun e w' => e = .returned (.bool false) ∧ w = w' := (bytes_equal w v1 v2 xs ys h1 h2).mono fun e w' ⟨he, hw⟩ => ⟨by rw [he, decide_eq_false hne], hw⟩
set_option maxRecDepth 100000 in
set_option maxHeartbeats 8000000 in
theorem oneform_walk (w : World) (T : DeBr w) (E : Nat → Addr) (hE : Errs w E allErrs) (hg : 25 ≤ w.heap.size) (ao : Option Addr) (k0 : Nat) (bs : List Nat) (h1 : Src w (.slice ao bs.length k0) bs) (hl1 : bs.length ≤ 140737488351232) (i : Int) :
    Calls Tryd.prog 7 #[.slice ao bs.length k0, .int .i64 i] w fun e w' => e = .returned (.bool true) ∧ Below w.heap.size w w' := by
  have HT := hide T
  have HE := hide hE
  have H1 := hide h1
  clear T hE h1
  go_enter Tryd.func7, Tryd.ntmps7
  go_wp2_with fail
  refine (fixed_any w E HE.out HT.out hg).mono ?_
  rintro e w1 ⟨rfl, hb1⟩
  have HB1 := hide hb1
  have z1 := hb1.size
  have HE1 := hide (HE.out.below hb1 (Nat.le_refl _) (ids_lt hg))
  have HS1 := hide (src_keep H1.out hb1)
  clear hb1
  go_wp2_with fail
  refine (decode_any w1 _ bs HS1.out hl1 E HE1.out (by omega)).mono ?_
  rintro e w2 ⟨hd, hb2⟩
  have HB2 := hide (HB1.out.trans (hb2.mono z1))
  have z2 := HB2.out.size
  clear hb2
  unfold DecOut at hd
  rcases hd with ⟨n, m, S, g, hn, hbs, rfl, hS, hgg, hs⟩ | ⟨hno, rfl⟩
  · have HS := hide hs
    have HBS := hide hbs
    have HP2 := hide (src_keep H1.out HB2.out)
    clear hs hbs
    go_wp2_with fail
    refine (encode_set w2 HS.out).mono ?_
    rintro e w3 ⟨q3, _, rfl, hh3, hb3⟩
    have HB3 := hide (HB2.out.trans (hb3.mono z2))
    have HS3 := hide (HS.out.keep hb3)
    have HQ3 := hide (src_encS hn hh3)
    have HP3 := hide (src_keep H1.out HB3.out)
    have z3 := HB3.out.size
    clear hh3 hb3 HS HP2
    have HY := hide (bytes_same w3 _ _ _ HQ3.out (by rw [← HBS.out]; exact HP3.out))
    go_wp2_with fail
    refine HY.out.mono ?_
    rintro e wz ⟨rfl, rfl⟩
    go_wp2_with fail
    refine (clone_any w3 HS3.out).mono ?_
    rintro e w4 ⟨S2, g2, cap2, rfl, hS2, hg2, hs4, hb4⟩
    have HB4 := hide (HB3.out.trans (hb4.mono z3))
    have HS4 := hide (HS3.out.keep hb4)
    have HT4 := hide hs4
    have z4 := HB4.out.size
    have z34 := hb4.size
    have hS3 := heap_lt HS3.out.hd
    have hg3 : g < w3.heap.size := by obtain ⟨cur, h, _⟩ := HS3.out.ws; exact heap_lt h
    have hSS : S ≠ S2 := by omega
    have hSg : S ≠ g2 := by omega
    have hgS : g ≠ S2 := by omega
    have hggg : g ≠ g2 := by omega
    have HLN := hide (len_any w4 HS4.out)
    clear hs4 hb4 HS3 HQ3 HP3 HY
    by_cases hi0 : i < 0
    · go_wp2_with fail
      go_ret
      exact ⟨rfl, HB4.out⟩
    by_cases hin : (n : Int) ≤ i
    · go_wp2_with fail
      refine HLN.out.mono ?_
      rintro e wz ⟨rfl, rfl⟩
      go_wp2_with fail
      go_ret
      exact ⟨rfl, HB4.out⟩
    obtain ⟨k, rfl⟩ := Int.eq_ofNat_of_zero_le (show 0 ≤ i by omega)
    have hkn : k < n := by omega
    have HHS := hide (has_in w4 HT4.out k hkn)
    have MUT : ∀ (w5 : World), SetAt w5 S2 g2 cap2 n (put m k (!m k)) → Foot w4 w5 (fun k => k = S2 ∨ k = g2) → Below w.heap.size w w5 ∧ SetAt w5 S g (nw n) n m := fun w5 h5 hf5 =>
      ⟨HB4.out.trans (hf5.below (fun k hk => by rcases hk with rfl | rfl <;> omega) (by omega)), HS4.out.apart hf5 hSS hSg hgS hggg⟩
    have HMUT := hide MUT
    clear MUT
    obtain ⟨b, hb⟩ : ∃ b, m k = b := ⟨_, rfl⟩
    have HMB := hide hb
    rw [hb] at HHS HMUT
    have hREM : b = true → Calls Tryd.prog 15 #[.pointer (some ⟨S2, 0, none⟩), .int .i64 (k : Nat)] w4 fun e w' => e = .returned (.tuple #[.bool true, .nilIface]) ∧ SetAt w' S2 g2 cap2 n (put m k (!b)) ∧ Foot w4 w' (fun k => k = S2 ∨ k = g2) := fun h => by
      subst h; exact rem_new w4 HT4.out k hkn hb
    have hADD : b = false → Calls Tryd.prog 16 #[.pointer (some ⟨S2, 0, none⟩), .int .i64 (k : Nat)] w4 fun e w' => e = .returned (.tuple #[.bool true, .nilIface]) ∧ SetAt w' S2 g2 cap2 n (put m k (!b)) ∧ Foot w4 w' (fun k => k = S2 ∨ k = g2) := fun h => by
      subst h; exact add_new w4 HT4.out k hkn hb
    have HREM := hide hREM
    have HADD := hide hADD
    clear hREM hADD hb
    cases b with
    | true =>
      go_wp2_with fail
      refine HLN.out.mono ?_
      rintro e wz ⟨rfl, rfl⟩
      go_wp2_with fail
      refine HHS.out.mono ?_
      rintro e wz ⟨rfl, rfl⟩
      go_wp2_with fail
      refine (HREM.out trivial).mono ?_
      rintro e w5 ⟨rfl, hs5, hf5⟩
      obtain ⟨hb5, hss5⟩ := HMUT.out w5 hs5 hf5
      have HB5 := hide hb5
      have HS5 := hide hss5
      have HT5 := hide hs5
      have z5 := hb5.size
      clear hb5 hss5 hs5 hf5 HHS HMUT HREM HADD HS4 HT4 HLN
      go_wp2_with fail
      refine (encode_set w5 HS5.out).mono ?_
      rintro e w6 ⟨q6, _, rfl, hh6, hb6⟩
      have HB6 := hide (HB5.out.trans (hb6.mono z5))
      have HS6 := hide (HS5.out.keep hb6)
      have HT6 := hide (HT5.out.keep hb6)
      have HQ6 := hide (src_encS hn hh6)
      have z6 := HB6.out.size
      clear hh6 hb6 HS5 HT5
      have HY := hide (bytes_same w6 _ _ _ HQ6.out (by rw [← HBS.out]; exact src_keep H1.out HB6.out))
      go_wp2_with fail
      refine HY.out.mono ?_
      rintro e wz ⟨rfl, rfl⟩
      clear HY
      go_wp2_with fail
      refine (encode_set w6 HT6.out).mono ?_
      rintro e w7 ⟨q7, _, rfl, hh7, hb7⟩
      have HB7 := hide (HB6.out.trans (hb7.mono z6))
      have HS7 := hide (HS6.out.keep hb7)
      have HT7 := hide (HT6.out.keep hb7)
      have HQ7 := hide (src_encS hn hh7)
      have z7 := HB7.out.size
      clear hh7 hb7 HS6 HT6
      have hne := enc_ne (m := m) hkn
      rw [HMB.out] at hne
      have hpn := put_ne (i := k) (m := m)
      rw [HMB.out] at hpn
      have HY := hide (bytes_diff w7 _ _ _ bs HQ7.out (src_keep H1.out HB7.out) (by rw [HBS.out]; exact hne))
      have HEQ := hide (equal_no w7 HS7.out HT7.out (fun _ => hpn))
      clear hne hpn
      go_wp2_with fail
      refine HY.out.mono ?_
      rintro e wz ⟨rfl, rfl⟩
      go_wp2_with fail
      refine HEQ.out.mono ?_
      rintro e wz ⟨rfl, q, rfl⟩
      have HS8 := hide (HS7.out.keep (below_drewN (Below.refl _ _) q))
      have HT8 := hide (HT7.out.keep (below_drewN (Below.refl _ _) q))
      have HB8 := hide (below_drewN HB7.out q)
      have hh1 := has_in _ HS8.out k hkn
      rw [HMB.out] at hh1
      have hh2 := has_in _ HT8.out k hkn
      unfold put at hh2
      rw [if_pos rfl] at hh2
      have HH1 := hide hh1
      have HH2 := hide hh2
      clear hh1 hh2 HY HEQ
      go_wp2_with fail
      refine HH1.out.mono ?_
      rintro e wz ⟨rfl, rfl⟩
      go_wp2_with fail
      refine HH2.out.mono ?_
      rintro e wz ⟨rfl, rfl⟩
      go_wp2_with fail
      go_ret
      exact ⟨rfl, HB8.out⟩
    | false =>
      go_wp2_with fail
      refine HLN.out.mono ?_
      rintro e wz ⟨rfl, rfl⟩
      go_wp2_with fail
      refine HHS.out.mono ?_
      rintro e wz ⟨rfl, rfl⟩
      go_wp2_with fail
      refine (HADD.out trivial).mono ?_
      rintro e w5 ⟨rfl, hs5, hf5⟩
      obtain ⟨hb5, hss5⟩ := HMUT.out w5 hs5 hf5
      have HB5 := hide hb5
      have HS5 := hide hss5
      have HT5 := hide hs5
      have z5 := hb5.size
      clear hb5 hss5 hs5 hf5 HHS HMUT HREM HADD HS4 HT4 HLN
      go_wp2_with fail
      refine (encode_set w5 HS5.out).mono ?_
      rintro e w6 ⟨q6, _, rfl, hh6, hb6⟩
      have HB6 := hide (HB5.out.trans (hb6.mono z5))
      have HS6 := hide (HS5.out.keep hb6)
      have HT6 := hide (HT5.out.keep hb6)
      have HQ6 := hide (src_encS hn hh6)
      have z6 := HB6.out.size
      clear hh6 hb6 HS5 HT5
      have HY := hide (bytes_same w6 _ _ _ HQ6.out (by rw [← HBS.out]; exact src_keep H1.out HB6.out))
      go_wp2_with fail
      refine HY.out.mono ?_
      rintro e wz ⟨rfl, rfl⟩
      clear HY
      go_wp2_with fail
      refine (encode_set w6 HT6.out).mono ?_
      rintro e w7 ⟨q7, _, rfl, hh7, hb7⟩
      have HB7 := hide (HB6.out.trans (hb7.mono z6))
      have HS7 := hide (HS6.out.keep hb7)
      have HT7 := hide (HT6.out.keep hb7)
      have HQ7 := hide (src_encS hn hh7)
      have z7 := HB7.out.size
      clear hh7 hb7 HS6 HT6
      have hne := enc_ne (m := m) hkn
      rw [HMB.out] at hne
      have hpn := put_ne (i := k) (m := m)
      rw [HMB.out] at hpn
      have HY := hide (bytes_diff w7 _ _ _ bs HQ7.out (src_keep H1.out HB7.out) (by rw [HBS.out]; exact hne))
      have HEQ := hide (equal_no w7 HS7.out HT7.out (fun _ => hpn))
      clear hne hpn
      go_wp2_with fail
      refine HY.out.mono ?_
      rintro e wz ⟨rfl, rfl⟩
      go_wp2_with fail
      refine HEQ.out.mono ?_
      rintro e wz ⟨rfl, q, rfl⟩
      have HS8 := hide (HS7.out.keep (below_drewN (Below.refl _ _) q))
      have HT8 := hide (HT7.out.keep (below_drewN (Below.refl _ _) q))
      have HB8 := hide (below_drewN HB7.out q)
      have hh1 := has_in _ HS8.out k hkn
      rw [HMB.out] at hh1
      have hh2 := has_in _ HT8.out k hkn
      unfold put at hh2
      rw [if_pos rfl] at hh2
      have HH1 := hide hh1
      have HH2 := hide hh2
      clear hh1 hh2 HY HEQ
      go_wp2_with fail
      refine HH1.out.mono ?_
      rintro e wz ⟨rfl, rfl⟩
      go_wp2_with fail
      refine HH2.out.mono ?_
      rintro e wz ⟨rfl, rfl⟩
      go_wp2_with fail
      go_ret
      exact ⟨rfl, HB8.out⟩
  · clear hno
    go_wp2_with fail
    go_ret
    exact ⟨rfl, HB2.out⟩
end Go.Proofs.YtmkbbekeimnajaaDoor
