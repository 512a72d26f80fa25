/- Equal, alike -/
import Derived.Test.YtmkbbekeimnajaaDoorMx
import Derived.Test.YtmkbbekeimnajaaDoorFx
namespace Go.Proofs.YtmkbbekeimnajaaDoor
open Go.RowKit Ds
theorem word_eq_of {m1 m2 : Nat → Bool} {n : Nat} (o1 : ∀ i, n ≤ i → m1 i = false) (o2 : ∀ i, n ≤ i → m2 i = false) (h : ∀ j, j < nw n → word m1 j = word m2 j) : m1 = m2 := by
  funext i
  by_cases hi : i < n
  · rw [← word_has m1 i, ← word_has m2 i, h (i / 64) (by unfold nw; omega)]
  · rw [o1 i (by omega), o2 i (by omega)]
theorem first_diff (P : Nat → Prop) (k : Nat) (h : ¬ ∀ j, j < k → P j) : ∃ d, d < k ∧ ¬ P d ∧ ∀ i, i < d → P i := by
  induction k with
  | zero => exact absurd (fun j hj => absurd hj (by omega)) h
  | succ k ih =>
    by_cases h1 : ∀ j, j < k → P j
    · refine ⟨k, by omega, fun hk => h fun j hj => ?_, h1⟩
      by_cases e : j = k
      · rw [e]; exact hk
      · exact h1 j (by omega)
    · obtain ⟨d, a, b, c⟩ := ih h1
      exact ⟨d, by omega, b, c⟩
set_option maxRecDepth 100000 in
set_option maxHeartbeats 2000000 in
theorem equal_same (w : World) {S1 g1 cap1 S2 g2 cap2 n : Nat} {m : Nat → Bool} (h1 : SetAt w S1 g1 cap1 n m) (h2 : SetAt w S2 g2 cap2 n m) :
    Calls Tryd.prog 35 #[.pointer (some ⟨S1, 0, none⟩), .pointer (some ⟨S2, 0, none⟩)] w fun e w' => e = .returned (.bool true) ∧ ∃ q, w' = w.drewN q := by
  obtain ⟨a0, a1, a2⟩ := cells3 h1.hd
  obtain ⟨b0, b1, b2⟩ := cells3 h2.hd
  have hsm := h1.small
  have HS1 := hide h1
  have HS2 := hide h2
  clear h1 h2
  go_enter Tryd.func35, Tryd.ntmps35
  go_wp2_with fail
  go_quiet (fail)
  have HT1 := hide (HS1.out.keep (below_drewN (Below.refl _ _) nq))
  have HT2 := hide (HS2.out.keep (below_drewN (Below.refl _ _) nq))
  have HW := hide (show ∃ q, w.drewN nq = w.drewN q from ⟨_, rfl⟩)
  generalize w.drewN nq = W at HT1 HT2 HW
  clear a0 a1 a2 b0 b1 b2
  obtain ⟨a0, a1, a2⟩ := cells3 HT1.out.hd
  obtain ⟨b0, b1, b2⟩ := cells3 HT2.out.hd
  have hcap1 := HT1.out.cap
  have hcap2 := HT2.out.cap
  obtain ⟨k, hk⟩ : ∃ k, nw n = k := ⟨_, rfl⟩
  have hkl : k ≤ 16384 := by rw [← hk]; unfold nw; omega
  rw [hk] at a2 b2 hcap1 hcap2
  have HK := hide hk
  clear hk
  go_wp2_with fail
  go_loop [36] (fun i => ∃ j : Nat, i = .int .i64 (j : Nat) ∧ j ≤ k) (fun i => k - (intOf i).toNat)
  case atStart => exact ⟨0, rfl, Nat.zero_le _⟩
  case round =>
    obtain ⟨j, rfl, hj⟩ := hrel
    by_cases hlt : j < k
    · have hji : (j : Int) < (k : Int) := by omega
      have aw := HT1.out.cell (show j < nw n by rw [HK.out]; exact hlt)
      have bw := HT2.out.cell (show j < nw n by rw [HK.out]; exact hlt)
      go_wp2_with fail
      exact ⟨⟨j + 1, vi (by omega), by omega⟩, by simp only [intOf]; omega⟩
    · obtain rfl : k = j := by omega
      go_wp2_with fail
      go_ret
      exact ⟨rfl, HW.out⟩
set_option maxRecDepth 100000 in
set_option maxHeartbeats 2000000 in
theorem equal_no (w : World) {S1 g1 cap1 S2 g2 cap2 n1 n2 : Nat} {m1 m2 : Nat → Bool} (h1 : SetAt w S1 g1 cap1 n1 m1) (h2 : SetAt w S2 g2 cap2 n2 m2) (hne : n1 = n2 → m1 ≠ m2) :
    Calls Tryd.prog 35 #[.pointer (some ⟨S1, 0, none⟩), .pointer (some ⟨S2, 0, none⟩)] w fun e w' => e = .returned (.bool false) ∧ ∃ q, w' = w.drewN q := by
  obtain ⟨a0, a1, a2⟩ := cells3 h1.hd
  obtain ⟨b0, b1, b2⟩ := cells3 h2.hd
  have hsm := h1.small
  have HS1 := hide h1
  have HS2 := hide h2
  clear h1 h2
  by_cases hn : n1 = n2
  · subst hn
    have HNE := hide (hne rfl)
    clear hne
    by_cases hc : cnt m1 n1 = cnt m2 n1
    · rw [← hc] at b1
      have hd := first_diff (fun j => word m1 j = word m2 j) (nw n1) (fun h => HNE.out (word_eq_of HS1.out.off HS2.out.off h))
      obtain ⟨d, hdk, hdne, hdlt⟩ := hd
      have HDL := hide hdlt
      have HDN := hide hdne
      clear hc hdlt hdne
      go_enter Tryd.func35, Tryd.ntmps35
      go_wp2_with fail
      go_quiet (fail)
      have HT1 := hide (HS1.out.keep (below_drewN (Below.refl _ _) nq))
      have HT2 := hide (HS2.out.keep (below_drewN (Below.refl _ _) nq))
      have HW := hide (show ∃ q, w.drewN nq = w.drewN q from ⟨_, rfl⟩)
      generalize w.drewN nq = W at HT1 HT2 HW
      clear a0 a1 a2 b0 b1 b2
      obtain ⟨a0, a1, a2⟩ := cells3 HT1.out.hd
      obtain ⟨b0, b1, b2⟩ := cells3 HT2.out.hd
      have hcap1 := HT1.out.cap
      have hcap2 := HT2.out.cap
      obtain ⟨k, hk⟩ : ∃ k, nw n1 = k := ⟨_, rfl⟩
      have hkl : k ≤ 16384 := by rw [← hk]; unfold nw; omega
      rw [hk] at a2 b2 hcap1 hcap2 hdk
      have HK := hide hk
      clear hk
      go_wp2_with fail
      go_loop [36] (fun i => ∃ j : Nat, i = .int .i64 (j : Nat) ∧ j ≤ d) (fun i => k - (intOf i).toNat)
      case atStart => exact ⟨0, rfl, Nat.zero_le _⟩
      case round =>
        obtain ⟨j, rfl, hj⟩ := hrel
        have hlt : j < k := by omega
        have hji : (j : Int) < (k : Int) := by omega
        have aw := HT1.out.cell (show j < nw n1 by rw [HK.out]; exact hlt)
        have bw := HT2.out.cell (show j < nw n1 by rw [HK.out]; exact hlt)
        by_cases hjd : j < d
        · rw [← HDL.out j hjd] at bw
          go_wp2_with fail
          exact ⟨⟨j + 1, vi (by omega), by omega⟩, by simp only [intOf]; omega⟩
        · obtain rfl : d = j := by omega
          have hx := HDN.out
          have hxi : ((word m1 d : Int) == (word m2 d : Int)) = false := by simp; omega
          have hxn : ¬ word m1 d = word m2 d := hx
          clear hx
          go_wp2_with fail
          go_ret
          exact ⟨rfl, HW.out⟩
    · have hci : ((cnt m2 n1 : Int) == (cnt m1 n1 : Int)) = false := by simp; omega
      have hcn : ¬ cnt m2 n1 = cnt m1 n1 := by omega
      clear hc
      go_enter Tryd.func35, Tryd.ntmps35
      go_wp2_with fail
      go_quiet (fail)
      go_wp2_with fail
      go_ret
      exact ⟨rfl, _, rfl⟩
  · have hci : ((n2 : Int) == (n1 : Int)) = false := by simp; omega
    have hci2 : ((n2 : Int) != (n1 : Int)) = true := by simp; omega
    have hcn : (n2 == n1) = false := by simp; omega
    have hcn2 : (n2 != n1) = true := by simp; omega
    clear hn hne
    go_enter Tryd.func35, Tryd.ntmps35
    go_wp2_with fail
    go_quiet (fail)
    go_wp2_with fail
    go_ret
    exact ⟨rfl, _, rfl⟩
/-- the bytes of a set -/
def encS (n : Nat) (m : Nat → Bool) : List Nat := Uv.uv n ++ body n m (nb n)
theorem encS_lt {n : Nat} {m : Nat → Bool} (hn : n ≤ 1048576) : ∀ x ∈ encS n m, x < 256 := fun x hx => by
  rcases List.mem_append.1 hx with hx | hx
  · exact Uv.uv_lt n (by omega) x hx
  · exact body_lt n m (nb n) x hx
theorem encS_len {n : Nat} {m : Nat → Bool} (hn : n ≤ 1048576) : (encS n m).length ≤ 140000 := by
  have h1 := Uv.uv_len n
  have h2 := body_len n m (nb n)
  have h3 : nb n ≤ 4096 := by unfold nb; omega
  unfold encS
  rw [List.length_append]
  omega
theorem encode_set (w : World) {S g cap n : Nat} {m : Nat → Bool} (h : SetAt w S g cap n m) :
    Calls Tryd.prog 24 #[.pointer (some ⟨S, 0, none⟩)] w fun e w' => ∃ q, w.heap.size ≤ q ∧ e = .returned (.slice (some ⟨q, 0, none⟩) (encS n m).length (encS n m).length) ∧
      w'.heap[q]? = some (.cells (u8s (encS n m)).toArray 5 (0, 0)) ∧ Below w.heap.size w w' := encode_any w h
theorem src_encS {w : World} {q n : Nat} {m : Nat → Bool} (hn : n ≤ 1048576) (h : w.heap[q]? = some (.cells (u8s (encS n m)).toArray 5 (0, 0))) : Src w (.slice (some ⟨q, 0, none⟩) (encS n m).length (encS n m).length) (encS n m) :=
  src_block h (encS_lt hn) (by have := encS_len (m := m) hn; omega)
set_option maxRecDepth 100000 in
set_option maxHeartbeats 2000000 in
theorem alike_same (w : World) {S1 g1 cap1 S2 g2 cap2 n : Nat} {m : Nat → Bool} (h1 : SetAt w S1 g1 cap1 n m) (h2 : SetAt w S2 g2 cap2 n m) :
    Calls Tryd.prog 27 #[.pointer (some ⟨S1, 0, none⟩), .pointer (some ⟨S2, 0, none⟩)] w fun e w' => e = .returned (.bool true) ∧ Below w.heap.size w w' := by
  have hsm := h1.small
  have HS1 := hide h1
  have HS2 := hide h2
  clear h1 h2
  go_enter Tryd.func27, Tryd.ntmps27
  go_wp2_with fail
  refine (equal_same w HS1.out HS2.out).mono ?_
  rintro e wz ⟨rfl, q1, rfl⟩
  have HA1 := hide (HS1.out.keep (below_drewN (Below.refl _ _) q1))
  have HA2 := hide (HS2.out.keep (below_drewN (Below.refl _ _) q1))
  have HB1 := hide (below_drewN (Below.refl w.heap.size w) q1)
  clear HS1 HS2
  go_wp2_with fail
  refine (equal_same _ HA2.out HA1.out).mono ?_
  rintro e wz ⟨rfl, q2, rfl⟩
  have HC1 := hide (HA1.out.keep (below_drewN (Below.refl _ _) q2))
  have HC2 := hide (HA2.out.keep (below_drewN (Below.refl _ _) q2))
  have HB2 := hide (below_drewN HB1.out q2)
  clear HA1 HA2 HB1
  generalize (w.drewN q1).drewN q2 = w2 at *
  go_wp2_with fail
  refine (encode_set w2 HC1.out).mono ?_
  rintro e w3 ⟨p3, hp3, rfl, hh3, hb3⟩
  have HH3 := hide hh3
  have HB3 := hide (HB2.out.trans (hb3.mono HB2.out.size))
  have HD2 := hide (HC2.out.keep hb3)
  clear hh3 hb3 HC1 HC2
  go_wp2_with fail
  refine (encode_set w3 HD2.out).mono ?_
  rintro e w4 ⟨p4, hp4, rfl, hh4, hb4⟩
  have HSA := hide (src_keep (src_encS hsm HH3.out) hb4)
  have HSB := hide (src_encS hsm hh4)
  have HB4 := hide (HB3.out.trans (hb4.mono HB3.out.size))
  clear hh4 hb4 HD2 HH3
  have HQ := hide (bytes_equal w4 _ _ _ _ HSA.out HSB.out)
  go_wp2_with fail
  refine HQ.out.mono ?_
  rintro e w5 ⟨rfl, rfl⟩
  go_wp2_with fail
  go_ret
  exact ⟨by simp, HB4.out⟩
end Go.Proofs.YtmkbbekeimnajaaDoor
