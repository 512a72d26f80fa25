/- the reference's Join -/
import Derived.Test.YtgebekklkodpaaaDoorRefTw
import Derived.Test.YtgebekklkodpaaaDoorJoin
namespace Go.Proofs.YtgebekklkodpaaaDoor
open Go.RowKit

theorem ref_step0 (w : World) (r : Nat) (hr : r < 4294967296) :
    Calls Tryd.prog 54 #[.int .u32 r, .int .u8 0, .int .u32 3988292384] w fun e w' => e = .returned (.int .u32 (Crc.step8 Crc.polyZip r : Nat)) ∧ w = w' := by
  have h := ref_step w Crc.polyZip r 0 (by decide) hr (by omega)
  rw [show Crc.byte Crc.polyZip r 0 = Crc.step8 Crc.polyZip r by simp [Crc.byte]] at h
  exact h
theorem rthere_cols {w : World} {g : Nat} {L M : Nat → Nat} (h : w.heap[g]? = some (.cells (cols L).toArray 90 (0, 0))) : w.there g 0 (cols M).toArray.size := by
  have := there_at h
  simpa [cols_len] using this
theorem rtwice_zeros (w : World) (j : Nat) :
    Calls Tryd.prog 56 #[.agg (cols (Crc.zeros Crc.polyZip (2 ^ j))).toArray] w fun e w' => e = .returned (.agg (cols (Crc.zeros Crc.polyZip (2 ^ (j + 1)))).toArray) ∧ Below w.heap.size w w' := by
  have h := ref_twice w _ (map_zeros (2 ^ j))
  rw [zeros_twice] at h
  exact h

set_option maxRecDepth 100000 in
set_option maxHeartbeats 1000000 in
theorem ref_join (w : World) (a b : Nat) (n : Int) (ha : a < 4294967296) (hb : b < 4294967296) (hn : n ≤ 9223372036854775807) :
    Calls Tryd.prog 22 #[.int .u32 a, .int .u32 b, .int .i64 n] w fun e w' => e = .returned (.int .u32 (Crc.zeros Crc.polyZip n.toNat a ^^^ b : Nat)) ∧ Below w.heap.size w w' := by
  have hu := Tryd.underlying90
  go_enter Tryd.func22, Tryd.ntmps22
  go_wp2
  go_loopw [8] (fun c wr => ∃ i : Nat, i ≤ 32 ∧ c = .int .i64 i ∧ wr.heap[w.heap.size]? = some (.cells (part (fun i => Crc.step8 Crc.polyZip (2 ^ i)) i).toArray 90 (0, 0)) ∧ Below w.heap.size w wr) (fun c _ => 32 - (intOf c).toNat)
  case atStart =>
    refine ⟨0, by omega, rfl, ?_, (Below.refl _ _).alloc (Nat.le_refl _) _⟩
    rw [part_zero]
    exact heap_alloc_new w _
  case round =>
    obtain ⟨i, hi, rfl, hA, hB⟩ := hrel
    have hsz := hB.size
    have hlz := heap_lt hA
    by_cases hlt : i < 32
    · have hcell' := (cell_at hA i).trans (part_cell _ _ _ hlt)
      have hfree' := free_at hA i
      obtain ⟨q, hq1, hq2, hq3⟩ := pow_int i hlt
      have HQ := hide hq1
      have HA := hide hA
      clear hq1 hA
      go_wp2_with (go_at_call 54; refine (ref_step0 _ q hq3).mono ?_; rintro e w' ⟨rfl, rfl⟩)
      go_roundw
      case rel =>
        refine ⟨i + 1, by omega, by go_num, ?_, ?_⟩
        · rw [← part_set, HQ.out]
          exact heap_set HA.out _
        · exact below_set hB (by omega) _
      case measure => simp [intOf]; omega
    · obtain rfl : i = 32 := by omega
      have hM0 : wr.heap[w.heap.size]? = some (.cells (cols (Crc.zeros Crc.polyZip (2 ^ 0))).toArray 90 (0, 0)) := by rw [← zeros_one]; exact hA
      have HM0 := hide hM0
      have HB0 := hide hB
      clear hsz hlz hi hlt hA hM0 hB
      rw [show ((32 : Nat) : Int) = 32 from rfl]
      go_wp2
      go_loopw [0, 2] (fun x y wx => ∃ (j c : Nat) (q : Int), c < 4294967296 ∧ x = .int .u32 c ∧ y = .int .i64 q ∧ q ≤ 9223372036854775807 ∧ Crc.zeros Crc.polyZip n.toNat a = Crc.zeros Crc.polyZip (q.toNat * 2 ^ j) c ∧
        wx.heap[w.heap.size]? = some (.cells (cols (Crc.zeros Crc.polyZip (2 ^ j))).toArray 90 (0, 0)) ∧ Below w.heap.size w wx) (fun _ y _ => (intOf y).toNat)
      case atStart => exact ⟨0, a, n, ha, rfl, rfl, hn, by simp, HM0.out, HB0.out⟩
      case round =>
        obtain ⟨j, c, q, hc, rfl, rfl, hq, hinv, hA, hB⟩ := hrel
        have HI := hide hinv
        have HA := hide hA
        clear hinv hA HM0
        by_cases h0 : q ≤ 0
        · have hx := u32_xor_nat c b hc hb
          have hfin : Crc.zeros Crc.polyZip n.toNat a = c := by rw [HI.out, show q.toNat = 0 by omega]; simp [Crc.zeros]
          have HF := hide hfin
          clear hfin
          go_wp2
          go_ret
          exact ⟨ret_int (by rw [HF.out]), hB⟩
        · obtain ⟨m, rfl⟩ := Int.eq_ofNat_of_zero_le (show 0 ≤ q by omega)
          have hm : 0 < (m : Int) := by omega
          have hinv' : Crc.zeros Crc.polyZip n.toNat a = Crc.zeros Crc.polyZip (m * 2 ^ j) c := HI.out
          have HI' := hide hinv'
          clear hinv'
          have hcl := cols_len (Crc.zeros Crc.polyZip (2 ^ j))
          have hi90 : (Tryd.prog.info? 90).map (·.size) = some (cols (Crc.zeros Crc.polyZip (2 ^ j))).length := by rw [size90, cols_len]
          have hi88 : (Tryd.prog.info? 90).map (·.size) = some (cols (Crc.zeros Crc.polyZip (2 ^ (j + 1)))).toArray.size := by rw [size90]; simp [cols_len]
          by_cases hodd : m % 2 = 1
          · have e1 : ((m : Int) % 2 == 1) = true := by simp; omega
            have hl := (map_zeros (2 ^ j)).lt c hc
            have hh := zeros_half m j c hodd
            have HH := hide hh
            clear hh hodd h0
            go_wp2_with (first
              | ((with_reducible refine wpList_load_mid rfl 90 (.tmp 7) rfl w.heap.size 0 ?_ (cols (Crc.zeros Crc.polyZip (2 ^ j))) _ ?_ hu ?_ hi90 ?_); exact rfl; (with_reducible exact range_at HA.out); exact rfl)
              | (go_at_call 55; refine (ref_at _ _ (map_zeros (2 ^ j)) c hc).mono ?_; rintro e w' ⟨rfl, rfl⟩)
              | ((with_reducible refine wpList_load_mid rfl 90 (.tmp 7) rfl w.heap.size 0 ?_ (cols (Crc.zeros Crc.polyZip (2 ^ j))) _ ?_ hu ?_ hi90 ?_); exact rfl; (with_reducible exact range_at (heap_old HA.out _)); exact rfl)
              | (go_at_call 56; refine (rtwice_zeros _ j).mono ?_; rintro e w1 ⟨rfl, hb1⟩; have HA1 := hide ((hb1.block _ (heap_lt (heap_old HA.out _))).trans (heap_old HA.out _)))
              | ((with_reducible refine wpList_store_mid rfl 90 (.tmp 7) (.tmp 27) rfl w.heap.size 0 (cols (Crc.zeros Crc.polyZip (2 ^ (j + 1)))).toArray ?_ ?_ ?_ ?_ ?_ ?_); exact rfl; exact rfl; exact rthere_cols HA1.out; exact hi88; exact all_oneCell_toArray (part_one _ _)))
            go_roundw
            case rel =>
              refine ⟨j + 1, _, ((m / 2 : Nat) : Int), hl, rfl, by simp, by omega, HI'.out.trans HH.out, ?_, ?_⟩
              · rw [heap_setCells HA1.out _ (by simp [cols_len])]
              · exact below_setCells (Nat.le_refl _) _ _ ((hB.alloc hB.size _).trans (hb1.mono (by simp; have := heap_lt HA.out; omega)))
            case measure => simp [intOf]; omega
          · have e1 : ((m : Int) % 2 == 1) = false := by simp; omega
            have hh := zeros_even m j c (by omega)
            have HH := hide hh
            clear hh hodd h0
            go_wp2_with (first
              | ((with_reducible refine wpList_load_mid rfl 90 (.tmp 7) rfl w.heap.size 0 ?_ (cols (Crc.zeros Crc.polyZip (2 ^ j))) _ ?_ hu ?_ hi90 ?_); exact rfl; (with_reducible exact range_at HA.out); exact rfl)
              | (go_at_call 56; refine (rtwice_zeros _ j).mono ?_; rintro e w1 ⟨rfl, hb1⟩; have HA1 := hide ((hb1.block _ (heap_lt HA.out)).trans HA.out))
              | ((with_reducible refine wpList_store_mid rfl 90 (.tmp 7) (.tmp 27) rfl w.heap.size 0 (cols (Crc.zeros Crc.polyZip (2 ^ (j + 1)))).toArray ?_ ?_ ?_ ?_ ?_ ?_); exact rfl; exact rfl; exact rthere_cols HA1.out; exact hi88; exact all_oneCell_toArray (part_one _ _)))
            go_roundw
            case rel =>
              refine ⟨j + 1, _, ((m / 2 : Nat) : Int), hc, rfl, by simp, by omega, HI'.out.trans HH.out, ?_, ?_⟩
              · rw [heap_setCells HA1.out _ (by simp [cols_len])]
              · exact below_setCells (Nat.le_refl _) _ _ (hB.trans (hb1.mono hB.size))
            case measure => simp [intOf]; omega

end Go.Proofs.YtgebekklkodpaaaDoor
