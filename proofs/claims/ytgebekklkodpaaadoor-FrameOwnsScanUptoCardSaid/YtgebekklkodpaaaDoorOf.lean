/- linear.of -/
import Derived.Test.YtgebekklkodpaaaDoorRoll
namespace Go.Proofs.YtgebekklkodpaaaDoor
open Go.RowKit

/-- the first i places of an array of 32 -/
def part (f : Nat → Nat) (i : Nat) : List Value := (List.range 32).map fun k => Value.int .u32 (if k < i then f k else 0 : Nat)
/-- a map's columns, as an array's cells -/
def cols (L : Nat → Nat) : List Value := part (fun i => L (2 ^ i)) 32
theorem part_zero (f : Nat → Nat) : (part f 0).toArray = (List.replicate 32 (Value.int .u32 0)).toArray := rfl
theorem part_len (f : Nat → Nat) (i : Nat) : (part f i).length = 32 := by simp [part]
theorem cols_len (L : Nat → Nat) : (cols L).length = 32 := part_len _ _
theorem part_one (f : Nat → Nat) (i : Nat) : ∀ v ∈ part f i, v.oneCell' = true := by
  intro v hv
  obtain ⟨k, _, rfl⟩ := List.mem_map.1 hv
  rfl
theorem part_cell (f : Nat → Nat) (i k : Nat) (h : k < 32) : (part f i).toArray[k]? = some (.int .u32 (if k < i then f k else 0 : Nat)) := by
  simp [part, h]
theorem cols_cell (L : Nat → Nat) (k : Nat) (h : k < 32) : (cols L).toArray[k]? = some (.int .u32 (L (2 ^ k) : Nat)) := by
  unfold cols
  rw [part_cell _ _ _ h, if_pos h]
theorem part_set (f : Nat → Nat) (i : Nat) : (part f i).toArray.setIfInBounds i (.int .u32 (f i : Nat)) = (part f (i + 1)).toArray := by
  apply Array.ext_getElem?
  intro k
  by_cases hk : k < 32
  · rw [Array.getElem?_setIfInBounds, part_cell _ _ _ hk, part_cell _ _ _ hk]
    by_cases h : i = k
    · subst h; simp [part_len, hk]
    · rw [if_neg h]
      by_cases h2 : k < i
      · rw [if_pos h2, if_pos (by omega)]
      · rw [if_neg h2, if_neg (by omega)]
  · rw [Array.getElem?_eq_none (by simp [part_len]; omega), Array.getElem?_eq_none (by simp [part_len]; omega)]
theorem cols_congr {L M : Nat → Nat} (h : ∀ k, L (2 ^ k) = M (2 ^ k)) : cols L = cols M := by
  unfold cols
  rw [show (fun i => L (2 ^ i)) = (fun i => M (2 ^ i)) from funext h]

structure Map32 (L : Nat → Nat) : Prop where
  lin : Crc.Lin L
  lt : ∀ a, a < 4294967296 → L a < 4294967296

theorem of_step (L : Nat → Nat) (h : Map32 L) (r i : Nat) (hr : r < 4294967296) (hi : i < 32) (ho : r / 2 ^ i % 2 = 1) :
    bits .xor .u32 (L (r % 2 ^ i) : Nat) (L (2 ^ i) : Nat) = (L (r % 2 ^ (i + 1)) : Nat) := by
  have h1 : r % 2 ^ i < 4294967296 := Nat.lt_of_le_of_lt (Nat.mod_le _ _) hr
  have h2 : 2 ^ i < 4294967296 := Nat.pow_lt_pow_right (a := 2) (m := i) (n := 32) (by omega) hi
  rw [u32_xor_nat _ _ (h.lt _ h1) (h.lt _ h2), Crc.lin_odd h.lin r i ho]

theorem shr_lt (r i : Nat) (hr : r < 4294967296) (h : r / 2 ^ i ≠ 0) : i < 32 := by
  refine Nat.lt_of_not_le fun hge => h ?_
  have : 2 ^ 32 ≤ 2 ^ i := Nat.pow_le_pow_right (by omega) hge
  exact Nat.div_eq_of_lt (by omega)

set_option maxHeartbeats 400000 in
theorem of_any (w : World) (L : Nat → Nat) (hM : Map32 L) (r : Nat) (hr : r < 4294967296) :
    Calls Tryd.prog 52 #[.agg (cols L).toArray, .int .u32 r] w fun e w' => e = .returned (.int .u32 (L r : Nat)) ∧ w' = w.alloc (.cells (cols L).toArray 87) := by
  have HM := hide hM
  clear hM
  go_enter Tryd.func52, Tryd.ntmps52
  go_wp2
  go_loop [1, 5, 6] (fun g o c => ∃ i q t : Nat, i ≤ 32 ∧ q < 4294967296 ∧ g = .int .u32 q ∧ c = .int .i64 i ∧ o = .int .u32 t ∧ q = r / 2 ^ i ∧ t = L (r % 2 ^ i)) (fun _ _ c => 32 - (intOf c).toNat)
  case atStart => exact ⟨0, r, 0, by omega, hr, rfl, rfl, rfl, by simp, by simp [Nat.mod_one, HM.out.lin.zero]⟩
  case round =>
    obtain ⟨i, q, t, hi, hq, rfl, rfl, rfl, hq', ht⟩ := hrel
    by_cases h0 : q = 0
    · have hz : ((q : Int) != 0) = false := by simp [h0]
      have hfin : t = L r := by rw [ht]; congr 1; exact Nat.mod_eq_of_lt (by have := Nat.div_eq_zero_iff.1 (hq'.symm.trans h0); have hp := Nat.pow_pos (n := i) (show 0 < 2 by omega); omega)
      have HF := hide hfin
      clear h0 hfin hq' ht
      go_wp2
      go_ret
      exact ⟨ret_int (by rw [HF.out]), rfl⟩
    · have hz : ((q : Int) != 0) = true := by simp; omega
      have hi32 : i < 32 := shr_lt r i hr (by rw [← hq']; exact h0)
      have hcell := (cell_at (heap_alloc_new w (.cells (cols L).toArray 87)) i).trans (cols_cell L i hi32)
      have e1 : bits .and .u32 (q : Int) 1 = ((q % 2 : Nat) : Int) := by
        have := u32_and_nat q 1 hq (by omega)
        rw [nat_mask1] at this
        exact this
      have e2 : q / 2 = r / 2 ^ (i + 1) := by rw [hq', Nat.div_div_eq_div_mul]; rfl
      have hq2 : q / 2 < 4294967296 := by omega
      by_cases hodd : q % 2 = 1
      · have e3 := of_step L HM.out r i hr hi32 (by rw [← hq']; exact hodd)
        rw [← ht] at e3
        generalize L (2 ^ i) = c at hcell e3
        generalize hnt : L (r % 2 ^ (i + 1)) = t' at e3
        rw [hodd] at e1
        have H2 := hide e2
        have HT := hide hnt
        clear e2 hnt hq' ht h0 hodd
        go_wp2
        go_round
        case rel => exact ⟨i + 1, q / 2, t', by omega, hq2, by simp, by go_num, rfl, H2.out, HT.out.symm⟩
        case measure => simp [intOf]; omega
      · have hev : q % 2 = 0 := by omega
        have e3 := Crc.lin_even HM.out.lin r i (by rw [← hq']; exact hev)
        rw [hev] at e1
        have H2 := hide e2
        have HT := hide (ht.trans e3.symm)
        clear e2 e3 hq' ht h0 hodd hev
        go_wp2
        go_round
        case rel => exact ⟨i + 1, q / 2, t, by omega, hq2, by simp, by go_num, rfl, H2.out, HT.out⟩
        case measure => simp [intOf]; omega
end Go.Proofs.YtgebekklkodpaaaDoor
