/- frame.Join -/
import Derived.Test.YtgebekklkodpaaaDoorTw
namespace Go.Proofs.YtgebekklkodpaaaDoor
open Go.RowKit

theorem i64_and1 (n : Int) : bits .and .i64 n 1 = n % 2 := by
  have h1 : (BitVec.ofInt 64 1).toNat = 2 ^ 1 - 1 := by decide
  have key : (BitVec.ofInt 64 n &&& BitVec.ofInt 64 1).toNat = (n % ((2 ^ 64 : Nat) : Int)).toNat % 2 ^ 1 := by
    rw [BitVec.toNat_and, BitVec.toNat_ofInt, h1, Nat.and_two_pow_sub_one_eq_mod]
  show IntKind.i64.wrap ((BitVec.ofInt 64 n &&& BitVec.ofInt 64 1).toNat : Nat) = n % 2
  rw [key, IntKind.wrap_i64]
  omega

theorem roll_zero (w : World) (Z : Zip w) (r : Nat) (hr : r < 4294967296) (g cap : Nat) (hc : w.cell? ⟨g, 0, none⟩ = some (.int .u8 0)) :
    Calls Tryd.prog 51 #[.int .u32 r, .slice (some ⟨g, 0, none⟩) 1 cap] w fun e w' => e = .returned (.int .u32 (Crc.step8 Crc.polyZip r : Nat)) ∧ w = w' := by
  have h := roll_any w Z r hr (some ⟨g, 0, none⟩) cap [0] ⟨by simp, .inr ⟨g, 0, rfl, fun k x hk => by
    match k, hk with
    | 0, hk => simp at hk; subst hk; simpa using hc⟩⟩ (by simp)
  have e : Crc.run Crc.polyZip r [0] = Crc.step8 Crc.polyZip r := by simp [Crc.run, Crc.byte]
  rw [e] at h
  exact h
theorem pow_int (i : Nat) (hlt : i < 32) : ∃ q : Nat, q = 2 ^ i ∧ (2 : Int) ^ i % 4294967296 = (q : Int) ∧ q < 4294967296 := by
  have h2 : 2 ^ i < 2 ^ 32 := Nat.pow_lt_pow_right (a := 2) (by omega) hlt
  have h3 : (2 : Int) ^ i = ((2 ^ i : Nat) : Int) := by simp
  refine ⟨2 ^ i, rfl, ?_, h2⟩
  rw [h3]
  generalize 2 ^ i = q at *
  omega

/-- some bytes of 0, as a map -/
theorem map_zeros (n : Nat) : Map32 (Crc.zeros Crc.polyZip n) := ⟨Crc.lin_zeros _ _, fun _ h => Crc.zeros_lt n (by decide) h⟩
theorem zeros_one : Crc.step8 Crc.polyZip = Crc.zeros Crc.polyZip (2 ^ 0) := by funext a; simp [Crc.zeros]
theorem zeros_twice (j : Nat) : (fun a => Crc.zeros Crc.polyZip (2 ^ j) (Crc.zeros Crc.polyZip (2 ^ j) a)) = Crc.zeros Crc.polyZip (2 ^ (j + 1)) := by
  funext a
  rw [← Crc.zeros_add]
  congr 1
  rw [Nat.pow_succ]; omega
theorem zeros_half (m j c : Nat) (h : m % 2 = 1) : Crc.zeros Crc.polyZip (m * 2 ^ j) c = Crc.zeros Crc.polyZip (m / 2 * 2 ^ (j + 1)) (Crc.zeros Crc.polyZip (2 ^ j) c) := by
  rw [← Crc.zeros_add]
  congr 1
  have h2 : m = 2 * (m / 2) + 1 := by omega
  generalize m / 2 = k at *
  subst h2
  rw [Nat.pow_succ, Nat.add_mul, Nat.one_mul, Nat.add_comm, Nat.mul_comm 2 k, Nat.mul_assoc, Nat.mul_comm 2 (2 ^ j)]
theorem zeros_even (m j c : Nat) (h : m % 2 = 0) : Crc.zeros Crc.polyZip (m * 2 ^ j) c = Crc.zeros Crc.polyZip (m / 2 * 2 ^ (j + 1)) c := by
  congr 1
  have h2 : m = 2 * (m / 2) := by omega
  generalize m / 2 = k at *
  subst h2
  rw [Nat.pow_succ, Nat.mul_comm 2 k, Nat.mul_assoc, Nat.mul_comm 2 (2 ^ j)]

theorem there_cols {w : World} {g : Nat} {L M : Nat → Nat} (h : w.heap[g]? = some (.cells (cols L).toArray 87 (0, 0))) : w.there g 0 (cols M).toArray.size := by
  have := there_at h
  simpa [cols_len] using this
theorem twice_zeros (w : World) (j : Nat) :
    Calls Tryd.prog 53 #[.agg (cols (Crc.zeros Crc.polyZip (2 ^ j))).toArray] w fun e w' => e = .returned (.agg (cols (Crc.zeros Crc.polyZip (2 ^ (j + 1)))).toArray) ∧ Below w.heap.size w w' := by
  have h := twice_any w _ (map_zeros (2 ^ j))
  rw [zeros_twice] at h
  exact h

set_option maxRecDepth 100000 in
set_option maxHeartbeats 1000000 in
theorem join_any (w : World) (Z : Zip w) (a b : Nat) (n : Int) (ha : a < 4294967296) (hb : b < 4294967296) (hn : n ≤ 9223372036854775807) (hg : 16 < w.heap.size) :
    Calls Tryd.prog 21 #[.int .u32 a, .int .u32 b, .int .i64 n] w fun e w' => e = .returned (.int .u32 (Crc.zeros Crc.polyZip n.toNat a ^^^ b : Nat)) ∧ Below w.heap.size w w' := by
  have hu := Tryd.underlying87
  go_enter Tryd.func21, Tryd.ntmps21
  go_wp2
  go_loopw [9] (fun c wr => ∃ i : Nat, i ≤ 32 ∧ c = .int .i64 i ∧ wr.heap[w.heap.size]? = some (.cells (part (fun i => Crc.step8 Crc.polyZip (2 ^ i)) i).toArray 87 (0, 0)) ∧ Below w.heap.size w wr) (fun c _ => 32 - (intOf c).toNat)
  case atStart =>
    refine ⟨0, by omega, rfl, ?_, (Below.refl _ _).alloc (Nat.le_refl _) _⟩
    rw [part_zero]
    exact heap_alloc_new w _
  case round =>
    obtain ⟨i, hi, rfl, hA, hB⟩ := hrel
    have hsz := hB.size
    have hlz := heap_lt hA
    by_cases hlt : i < 32
    · have hcell' := fun o => (cell_at (heap_old hA o) i).trans (part_cell _ _ _ hlt)
      have hfree' := fun o => free_at (heap_old hA o) i
      obtain ⟨q, hq1, hq2, hq3⟩ := pow_int i hlt
      have HQ := hide hq1
      have HA := hide hA
      clear hq1 hA
      have hz : (wr.alloc (.cells #[.int .u8 0] 5)).cell? ⟨wr.heap.size, 0, none⟩ = some (.int .u8 0) := by rw [World.cell?_alloc_new]; rfl
      have Z1 : Zip (wr.alloc (.cells #[.int .u8 0] 5)) := fun k hk => (((hB.alloc hsz _).cell (p := ⟨16, k, none⟩) hg).trans (Z k hk))
      go_wp2_with (go_at_call 51; refine (roll_zero _ Z1 q hq3 _ _ hz).mono ?_; rintro e w' ⟨rfl, rfl⟩)
      go_roundw
      case rel =>
        refine ⟨i + 1, by omega, by go_num, ?_, ?_⟩
        · rw [← part_set, HQ.out]
          exact heap_old (heap_set HA.out _) _
        · exact (below_set hB (by omega) _).alloc (by simp [World.setCell]; omega) _
      case measure => simp [intOf]; omega
    · obtain rfl : i = 32 := by omega
      have hM0 : wr.heap[w.heap.size]? = some (.cells (cols (Crc.zeros Crc.polyZip (2 ^ 0))).toArray 87 (0, 0)) := by rw [← zeros_one]; exact hA
      have HM0 := hide hM0
      have HB0 := hide hB
      clear hsz hlz hi hlt hA hM0 hB
      rw [show ((32 : Nat) : Int) = 32 from rfl]
      go_wp2
      go_loopw [0, 2] (fun x y wx => ∃ (j c : Nat) (q : Int), c < 4294967296 ∧ x = .int .u32 c ∧ y = .int .i64 q ∧ q ≤ 9223372036854775807 ∧ Crc.zeros Crc.polyZip n.toNat a = Crc.zeros Crc.polyZip (q.toNat * 2 ^ j) c ∧
        wx.heap[w.heap.size]? = some (.cells (cols (Crc.zeros Crc.polyZip (2 ^ j))).toArray 87 (0, 0)) ∧ Below w.heap.size w wx) (fun _ y _ => (intOf y).toNat)
      case atStart => exact ⟨0, a, n, ha, rfl, rfl, hn, by simp, HM0.out, HB0.out⟩
      case round =>
        obtain ⟨j, c, q, hc, rfl, rfl, hq, hinv, hA, hB⟩ := hrel
        have HI := hide hinv
        have HA := hide hA
        clear hinv hA HM0
        by_cases h0 : q ≤ 0
        · have hx := u32_xor_nat c b hc hb
          have hfin : Crc.zeros Crc.polyZip n.toNat a = c := by rw [HI.out, show q.toNat = 0 by omega]; simp [Crc.zeros]
          have HF := hide hfin
          clear hfin
          go_wp2
          go_ret
          exact ⟨ret_int (by rw [HF.out]), hB⟩
        · obtain ⟨m, rfl⟩ := Int.eq_ofNat_of_zero_le (show 0 ≤ q by omega)
          have hm : 0 < (m : Int) := by omega
          have hinv' : Crc.zeros Crc.polyZip n.toNat a = Crc.zeros Crc.polyZip (m * 2 ^ j) c := HI.out
          have HI' := hide hinv'
          clear hinv'
          have hcl := cols_len (Crc.zeros Crc.polyZip (2 ^ j))
          have hi87 : (Tryd.prog.info? 87).map (·.size) = some (cols (Crc.zeros Crc.polyZip (2 ^ j))).length := by rw [size87, cols_len]
          have hi88 : (Tryd.prog.info? 87).map (·.size) = some (cols (Crc.zeros Crc.polyZip (2 ^ (j + 1)))).toArray.size := by rw [size87]; simp [cols_len]
          by_cases hodd : m % 2 = 1
          · have e1 : bits .and .i64 (m : Int) 1 = 1 := by rw [i64_and1]; omega
            have hl := (map_zeros (2 ^ j)).lt c hc
            have hh := zeros_half m j c hodd
            have HH := hide hh
            clear hh hodd h0
            go_wp2_with (first
              | ((with_reducible refine wpList_load_mid rfl 87 (.tmp 7) rfl w.heap.size 0 ?_ (cols (Crc.zeros Crc.polyZip (2 ^ j))) _ ?_ hu ?_ hi87 ?_); exact rfl; (with_reducible exact range_at HA.out); exact rfl)
              | (go_at_call 52; refine (of_any _ _ (map_zeros (2 ^ j)) c hc).mono ?_; rintro e w' ⟨rfl, rfl⟩)
              | ((with_reducible refine wpList_load_mid rfl 87 (.tmp 7) rfl w.heap.size 0 ?_ (cols (Crc.zeros Crc.polyZip (2 ^ j))) _ ?_ hu ?_ hi87 ?_); exact rfl; (with_reducible exact range_at (heap_old HA.out _)); exact rfl)
              | (go_at_call 53; refine (twice_zeros _ j).mono ?_; rintro e w1 ⟨rfl, hb1⟩; have HA1 := hide ((hb1.block _ (heap_lt (heap_old HA.out _))).trans (heap_old HA.out _)))
              | ((with_reducible refine wpList_store_mid rfl 87 (.tmp 7) (.tmp 30) rfl w.heap.size 0 (cols (Crc.zeros Crc.polyZip (2 ^ (j + 1)))).toArray ?_ ?_ ?_ ?_ ?_ ?_); exact rfl; exact rfl; exact there_cols HA1.out; exact hi88; exact all_oneCell_toArray (part_one _ _)))
            go_roundw
            case rel =>
              refine ⟨j + 1, _, ((m / 2 : Nat) : Int), hl, rfl, by simp, by omega, HI'.out.trans HH.out, ?_, ?_⟩
              · rw [heap_setCells HA1.out _ (by simp [cols_len])]
              · exact below_setCells (Nat.le_refl _) _ _ ((hB.alloc hB.size _).trans (hb1.mono (by simp; have := heap_lt HA.out; omega)))
            case measure => simp [intOf]; omega
          · have e1 : bits .and .i64 (m : Int) 1 = 0 := by rw [i64_and1]; omega
            have hh := zeros_even m j c (by omega)
            have HH := hide hh
            clear hh hodd h0
            go_wp2_with (first
              | ((with_reducible refine wpList_load_mid rfl 87 (.tmp 7) rfl w.heap.size 0 ?_ (cols (Crc.zeros Crc.polyZip (2 ^ j))) _ ?_ hu ?_ hi87 ?_); exact rfl; (with_reducible exact range_at HA.out); exact rfl)
              | (go_at_call 53; refine (twice_zeros _ j).mono ?_; rintro e w1 ⟨rfl, hb1⟩; have HA1 := hide ((hb1.block _ (heap_lt HA.out)).trans HA.out))
              | ((with_reducible refine wpList_store_mid rfl 87 (.tmp 7) (.tmp 30) rfl w.heap.size 0 (cols (Crc.zeros Crc.polyZip (2 ^ (j + 1)))).toArray ?_ ?_ ?_ ?_ ?_ ?_); exact rfl; exact rfl; exact there_cols HA1.out; exact hi88; exact all_oneCell_toArray (part_one _ _)))
            go_roundw
            case rel =>
              refine ⟨j + 1, _, ((m / 2 : Nat) : Int), hc, rfl, by simp, by omega, HI'.out.trans HH.out, ?_, ?_⟩
              · rw [heap_setCells HA1.out _ (by simp [cols_len])]
              · exact below_setCells (Nat.le_refl _) _ _ (hB.trans (hb1.mono hB.size))
            case measure => simp [intOf]; omega

end Go.Proofs.YtgebekklkodpaaaDoor
