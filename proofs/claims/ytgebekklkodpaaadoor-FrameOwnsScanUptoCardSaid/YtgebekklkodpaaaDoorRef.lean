/- the reference's step, linear.at -/
import Derived.Test.YtgebekklkodpaaaDoorOf
namespace Go.Proofs.YtgebekklkodpaaaDoor
open Go.RowKit

def itn (p : Nat) : Nat → Nat → Nat | 0, r => r | k + 1, r => Crc.step1 p (itn p k r)
theorem it8 (p r : Nat) : itn p 8 r = Crc.step8 p r := by simp [itn, Crc.step8, Crc.step4]
theorem u32_and1 (q : Nat) (h : q < 4294967296) : bits .and .u32 (q : Int) 1 = ((q % 2 : Nat) : Int) := by
  have := u32_and_nat q 1 h (by omega)
  rw [nat_mask1] at this
  exact this

set_option maxHeartbeats 400000 in
theorem ref_step (w : World) (p r x : Nat) (hp : p < 4294967296) (hr : r < 4294967296) (hx : x < 256) :
    Calls Tryd.prog 54 #[.int .u32 r, .int .u8 x, .int .u32 p] w fun e w' => e = .returned (.int .u32 (Crc.byte p r x : Nat)) ∧ w = w' := by
  have e0 := u32_xor_nat r x hr (by omega)
  have l0 : r ^^^ x < 4294967296 := Nat.xor_lt_two_pow (n := 32) hr (by omega)
  obtain ⟨s0, hs0⟩ : ∃ s0, s0 = r ^^^ x := ⟨_, rfl⟩
  rw [← hs0] at e0 l0
  have HS0 := hide hs0
  clear hs0
  go_enter Tryd.func54, Tryd.ntmps54
  go_wp2
  go_loop [0, 7] (fun v c => ∃ k s : Nat, k ≤ 8 ∧ s < 4294967296 ∧ c = .int .i64 k ∧ v = .int .u32 s ∧ s = itn p k s0) (fun _ c => 8 - (intOf c).toNat)
  case atStart => exact ⟨0, s0, by omega, l0, rfl, rfl, rfl⟩
  case round =>
    obtain ⟨k, s, hk, hs, rfl, rfl, hS⟩ := hrel
    have HS := hide hS
    clear hS
    by_cases hlt : k < 8
    · have e1 := u32_and1 s hs
      by_cases ho : s % 2 = 1
      · rw [ho] at e1
        have e2 : bits .xor .u32 ((s : Int) / 2) (p : Int) = (Crc.step1 p s : Nat) := by
          have h := u32_xor_nat (s / 2) p (by omega) hp
          rw [Crc.step1, if_pos ho, Nat.shiftRight_eq_div_pow, ← h]
          simp
        have l2 : Crc.step1 p s < 4294967296 := Crc.step1_lt hp hs
        generalize hs2 : Crc.step1 p s = s2 at e2 l2
        have HS2 := hide hs2
        clear hs2 ho
        go_wp2
        go_round
        case rel => exact ⟨k + 1, s2, hlt, l2, by go_num, rfl, by rw [itn, ← HS.out, HS2.out]⟩
        case measure => simp [intOf]; omega
      · have ho' : s % 2 = 0 := by omega
        rw [ho'] at e1
        have hs2 : s / 2 = Crc.step1 p s := by rw [Crc.step1, if_neg ho, Nat.shiftRight_eq_div_pow]; simp
        have HS2 := hide hs2
        clear hs2 ho ho'
        go_wp2
        go_round
        case rel => exact ⟨k + 1, s / 2, hlt, by omega, by go_num, by simp, by rw [itn, ← HS.out, HS2.out]⟩
        case measure => simp [intOf]; omega
    · obtain rfl : k = 8 := by omega
      go_wp2
      go_ret
      exact ⟨ret_int (by rw [HS.out, it8, HS0.out]; rfl), rfl⟩

theorem u32_shr_bit (r i : Nat) (hr : r < 4294967296) : bits .and .u32 ((r : Int) / 2 ^ i) 1 = ((r / 2 ^ i % 2 : Nat) : Int) := by
  have h := u32_and1 (r / 2 ^ i) (Nat.lt_of_le_of_lt (Nat.div_le_self _ _) hr)
  rw [← h]; simp

set_option maxHeartbeats 400000 in
theorem ref_at (w : World) (L : Nat → Nat) (hM : Map32 L) (r : Nat) (hr : r < 4294967296) :
    Calls Tryd.prog 55 #[.agg (cols L).toArray, .int .u32 r] w fun e w' => e = .returned (.int .u32 (L r : Nat)) ∧ w' = w.alloc (.cells (cols L).toArray 90) := by
  have HM := hide hM
  clear hM
  go_enter Tryd.func55, Tryd.ntmps55
  go_wp2
  go_loop [5, 6] (fun o c => ∃ i t : Nat, i ≤ 32 ∧ c = .int .i64 i ∧ o = .int .u32 t ∧ t = L (r % 2 ^ i)) (fun _ c => 32 - (intOf c).toNat)
  case atStart => exact ⟨0, 0, by omega, rfl, rfl, by simp [Nat.mod_one, HM.out.lin.zero]⟩
  case round =>
    obtain ⟨i, t, hi, rfl, rfl, ht⟩ := hrel
    by_cases hlt : i < 32
    · have e1 := u32_shr_bit r i hr
      have hcell := (cell_at (heap_alloc_new w (.cells (cols L).toArray 90)) i).trans (cols_cell L i hlt)
      by_cases hodd : r / 2 ^ i % 2 = 1
      · have e3 := of_step L HM.out r i hr hlt hodd
        rw [← ht] at e3
        generalize L (2 ^ i) = c at hcell e3
        generalize hnt : L (r % 2 ^ (i + 1)) = t' at e3
        rw [hodd] at e1
        have HT := hide hnt
        clear hnt ht hodd
        go_wp2
        go_round
        case rel => exact ⟨i + 1, t', by omega, by go_num, rfl, HT.out.symm⟩
        case measure => simp [intOf]; omega
      · have hev : r / 2 ^ i % 2 = 0 := by omega
        have e3 := Crc.lin_even HM.out.lin r i hev
        rw [hev] at e1
        have HT := hide (ht.trans e3.symm)
        clear e3 ht hodd hev
        go_wp2
        go_round
        case rel => exact ⟨i + 1, t, by omega, by go_num, rfl, HT.out⟩
        case measure => simp [intOf]; omega
    · obtain rfl : i = 32 := by omega
      have hfin : t = L r := by rw [ht, Nat.mod_eq_of_lt hr]
      have HF := hide hfin
      clear hfin ht
      go_wp2
      go_ret
      exact ⟨ret_int (by rw [HF.out]), rfl⟩
end Go.Proofs.YtgebekklkodpaaaDoor
