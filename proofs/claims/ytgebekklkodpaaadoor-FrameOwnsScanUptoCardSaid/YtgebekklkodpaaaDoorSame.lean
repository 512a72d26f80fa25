/- sameBlocks of one and the same list -/
import Derived.Test.YtgebekklkodpaaaDoorUn
import Derived.Test.YtgebekklkodpaaaDoorStr
namespace Go.Proofs.YtgebekklkodpaaaDoor
open Go.RowKit

theorem blocks_form' {w : World} {v : Value} {bl : List Bl} (h : Blocks w v bl) : ∃ ao cap, v = .slice ao bl.length cap := by
  rcases h with ⟨rfl, rfl⟩ | ⟨ad, cap, rfl, _⟩
  · exact ⟨_, _, rfl⟩
  · exact ⟨_, _, rfl⟩
theorem blocks_get {w : World} {ao : Option Addr} {n cap : Nat} {bl : List Bl} (h : Blocks w (.slice ao n cap) bl) {i : Nat} {x : Bl} (hx : bl[i]? = some x) :
    ∃ ad bv, ao = some ad ∧ w.cell? (ad.add (i * 2)) = some (.int .u8 (x.1 : Int)) ∧ w.cell? ⟨(ad.add (i * 2)).block, (ad.add (i * 2)).off + 1, none⟩ = some bv ∧ Src w bv x.2 := by
  rcases h with ⟨_, rfl⟩ | ⟨ad, c, hv, _, _, hb⟩
  · simp at hx
  · simp only [Value.slice.injEq] at hv
    obtain ⟨_, bv, h1, h2, h3⟩ := hb i x hx
    rw [Nat.mul_comm] at h1 h2
    refine ⟨ad, bv, hv.1, h1, ?_, h3⟩
    exact h2

set_option maxRecDepth 100000 in
set_option maxHeartbeats 4000000 in
theorem same_blocks (w : World) (va vb : Value) (bl : List Bl) (ha : Blocks w va bl) (hb : Blocks w vb bl) (hl : bl.length ≤ 1099511627776) :
    Calls Tryd.prog 44 #[va, vb] w fun e w' => e = .returned (.bool true) ∧ ∃ q, w' = w.drewN q := by
  obtain ⟨aa, ca, rfl⟩ := blocks_form' ha
  obtain ⟨ab, cb, rfl⟩ := blocks_form' hb
  have HA := hide ha
  have HB := hide hb
  clear ha hb
  go_enter Tryd.func44, Tryd.ntmps44
  go_wp2_with fail
  go_loopw [13] (fun c wr => ∃ i : Nat, i ≤ bl.length ∧ c = .int .i64 i ∧ ∃ q, wr = w.drewN q) (fun c _ => bl.length - (intOf c).toNat)
  case atStart => exact ⟨0, by omega, rfl, 0, rfl⟩
  case round =>
    obtain ⟨i, hi, rfl, q, rfl⟩ := hrel
    by_cases hlt : i < bl.length
    · obtain ⟨x, hx⟩ : ∃ x, bl[i]? = some x := ⟨_, List.getElem?_eq_getElem hlt⟩
      obtain ⟨ad, bv, rfl, c0, c1, hs1⟩ := blocks_get HA.out hx
      obtain ⟨ad2, bv2, rfl, d0, d1, hs2⟩ := blocks_get HB.out hx
      have s1 := fun q => src_string (src_drew hs1 q)
      have s2 := fun q => src_string (src_drew hs2 q)
      obtain ⟨a1, k1, rfl⟩ := src_form hs1
      obtain ⟨a2, k2, rfl⟩ := src_form hs2
      generalize x.1 = t at c0 d0
      generalize x.2.length = n at c1 d1 s1 s2
      generalize bstr x.2 = X at s1 s2
      have hi1 : (i : Int) < (bl.length : Int) := by omega
      clear hs1 hs2 hx
      go_wp2_with fail
      go_quiet (fail)
      go_wp2_with fail
      exact ⟨⟨i + 1, by omega, by simp, _, rfl⟩, by simp [intOf]; omega⟩
    · obtain rfl : i = bl.length := by omega
      go_wp2_with fail
      go_ret
      exact ⟨rfl, q, rfl⟩

theorem blks_inl {n : Nat} {r : List Nat} {g : Nat} (h : blks n r = .inl g) : g = 5 ∨ g = 0 ∨ g = 1 ∨ g = 2 ∨ g = 6 := by
  induction n generalizing r with
  | zero =>
    rw [blks] at h
    split at h
    · cases h
    · cases h; exact .inl rfl
  | succ n ih =>
    rw [blks] at h
    split at h
    · rename_i hd
      cases h
      exact .inr (dec_inl hd)
    · split at h
      · rename_i hb
        cases h
        exact ih hb
      · cases h
theorem unp_inl {kind : Nat} {im : List Nat} {g : Nat} (h : unp kind im = .inl g) : g = 5 ∨ g = 0 ∨ g = 1 ∨ g = 2 ∨ g = 6 := by
  rw [unp] at h
  split at h
  · cases h; exact .inr (.inr (.inl rfl))
  · split at h
    · cases h; exact .inr (.inr (.inr (.inr rfl)))
    · split at h
      · cases h; exact .inr (.inl rfl)
      · split at h
        · rename_i hn
          rcases Nm.num_err (f := 10) (i := 0) ((im.take (im.length - 4)).drop 5) with h0 | h0 | h0
          · exact absurd h0 hn
          · rw [h0] at h; cases h; exact .inr (.inr (.inl rfl))
          · rw [h0] at h; cases h; exact .inr (.inr (.inr (.inl rfl)))
        · exact blks_inl h
theorem num_unp (w : World) (E : Nat → Addr) (h : Errs w E allErrs) {kind : Nat} {im : List Nat} {g : Nat} (hd : unp kind im = .inl g) :
    Calls Tryd.prog 26 #[.iface 124 (.pointer (some (E g)))] w fun e w' => e = .returned (.int .i64 (errNum g : Nat)) ∧ w = w' := by
  rcases unp_inl hd with rfl | rfl | rfl | rfl | rfl
  · exact num_5 w E h
  · exact num_0 w E h
  · exact num_1 w E h
  · exact num_2 w E h
  · exact num_6 w E h
theorem dec_size {r : List Nat} {i j : Nat} (h : dec r = .inr (i, j)) : j + 4 ≤ r.length := by
  cases r with
  | nil => simp [dec] at h
  | cons t r =>
    rw [dec] at h
    split at h
    · simp at h
    · split at h
      · simp at h
      · split at h
        · simp at h
        · split at h
          · simp at h
          · simp only [Sum.inr.injEq, Prod.mk.injEq] at h
            simp only [List.length_cons] at *
            omega
theorem blks_len {n : Nat} {r : List Nat} {bl : List Bl} (h : blks n r = .inr bl) : bl.length ≤ r.length := by
  induction n generalizing r bl with
  | zero =>
    rw [blks] at h
    split at h
    · cases h; simp
    · cases h
  | succ n ih =>
    rw [blks] at h
    split at h
    · cases h
    · rename_i i j hd
      split at h
      · cases h
      · rename_i hb
        cases h
        have := ih hb
        have hs := dec_size hd
        rw [List.length_drop] at this
        simp only [List.length_cons]
        omega
theorem unp_len {kind : Nat} {im : List Nat} {bl : List Bl} (h : unp kind im = .inr bl) (hl : im.length ≤ 100000000) : bl.length ≤ 100000000 := by
  rw [unp] at h
  split at h
  · cases h
  · split at h
    · cases h
    · split at h
      · cases h
      · split at h
        · cases h
        · have := blks_len h
          rw [List.length_drop, List.length_drop, List.length_take] at this
          omega
end Go.Proofs.YtgebekklkodpaaaDoor
