/- filled -/
import Derived.Test.YtmkbbekeimnajaaDoorBo2
import Derived.StillTailTactics
import Derived.Test.YtmkbbekeimnajaaDoorRk
namespace Go.Proofs.YtmkbbekeimnajaaDoor
open Go.RowKit Ds
def fillF (b : Bool) (W : Nat) : Nat → Bool := fun i => b && decide (i < W)
theorem below_tt (W : Nat) : below (fun _ => true) W = fillF true W := by funext i; simp [below, fillF]
theorem fill_ff (W : Nat) : fillF false W = fun _ => false := by funext i; simp [fillF]
set_option maxRecDepth 100000 in
set_option maxHeartbeats 4000000 in
theorem filled_yes (w : World) (W : Nat) (hW : W ≤ 256) :
    Calls Tryd.prog 84 #[.agg #[.int .u8 0, .int .u8 0, .int .u8 0, .int .u8 0, .int .u8 0, .int .u8 0, .int .u8 0, .int .u8 0, .int .u8 0, .int .u8 0, .int .u8 0, .int .u8 0, .int .u8 0, .int .u8 0, .int .u8 0, .int .u8 0, .int .u8 0, .int .u8 0, .int .u8 0, .int .u8 0, .int .u8 0, .int .u8 0, .int .u8 0, .int .u8 0, .int .u8 0, .int .u8 0, .int .u8 0, .int .u8 0, .int .u8 0, .int .u8 0, .int .u8 0, .int .u8 0], .int .i64 (W : Nat), .bool true] w fun e w' => e = .returned (.agg (octs (fillF true W)).toArray) ∧ Below w.heap.size w w' := by
  have hq := ((Below.refl w.heap.size w).alloc (Nat.le_refl _) (.cells (octs (fun _ => false)).toArray 89)).alloc (by simp) (.cells (octs (fun _ => false)).toArray 89)
  have HB := hide hq
  have HA := hide (heap_alloc2_old w (.cells (octs (fun _ => false)).toArray 89) (.cells (octs (fun _ => false)).toArray 89))
  have HN := hide (heap_alloc2_new w (.cells (octs (fun _ => false)).toArray 89) (.cells (octs (fun _ => false)).toArray 89))
  rw [← octs_none] at hq HB HA HN
  have HZ := hide octs_none
  clear hq
  go_enter Tryd.func84, Tryd.ntmps84
  go_upto_region 2 with (fail)
  generalize (w.alloc _).alloc _ = w2 at *
  rw [HZ.out] at HA HN
  have hs2 := HB.out.size
  go_wp2_with fail
  go_loopw [10] (fun k wr => ∃ i : Nat, k = .int .i64 (i : Nat) ∧ i ≤ W ∧ wr.heap[w.heap.size]? = some (.cells (octs (below (fun _ => true) i)).toArray 89 (0, 0)) ∧ wr.heap[w.heap.size + 1]? = some (.cells (octs (fun _ => false)).toArray 89 (0, 0)) ∧ Below w.heap.size w wr) (fun k _ => W - (intOf k).toNat)
  case atStart => exact ⟨0, rfl, by omega, by rw [below_zero]; exact HA.out, HN.out, HB.out⟩
  case round =>
    obtain ⟨i, rfl, hi, hk1, hk2, hbr⟩ := hrel
    have HK1 := hide hk1
    have HK2 := hide hk2
    have HBr := hide hbr
    have hsr := hbr.size
    clear hk1 hk2 hbr HA HN HB
    by_cases hlt : i < W
    · have hi1 : (i : Int) < (W : Int) := by omega
      obtain ⟨q, hq⟩ : ∃ q, i / 8 = q := ⟨_, rfl⟩
      obtain ⟨r, hr⟩ : ∃ r, i % 8 = r := ⟨_, rfl⟩
      have hqi : (i : Int) / 8 = (q : Int) := by omega
      have hri : (i : Int) % 8 = (r : Int) := by omega
      have hq32 : q < 32 := by omega
      have hO := or_bit8 (below (fun _ => true) i) i
      rw [hq, hr, IntKind.wrap_u8] at hO
      have HPU := hide (show ((octs (below (fun _ => true) i)).toArray.setIfInBounds q (.int .u8 (oct (put (below (fun _ => true) i) i true) q : Nat))) = (octs (below (fun _ => true) (i + 1))).toArray from by rw [← hq, octs_put, below_yes rfl])
      have hcc : wr.cell? ⟨w.heap.size, q, none⟩ = some (.int .u8 (oct (below (fun _ => true) i) q : Nat)) := by
        rw [cell_at HK1.out]
        have := octs_get (below (fun _ => true) i) hq32
        simpa using this
      have hff := free_at HK1.out q
      have hr8 : r < 8 := by omega
      clear hq hr
      go_wp2_with fail
      go_region
      go_wp2_with fail
      refine ⟨⟨i + 1, by simp, by omega, ?_, heap_else HK2.out (by omega) _, (below_set HBr.out (by omega) _).drew⟩, by simp [intOf]; omega⟩
      show (wr.setCell ⟨w.heap.size, q, none⟩ (.int .u8 (oct (put (below (fun _ => true) i) i true) q : Nat))).heap[w.heap.size]? = _
      rw [heap_set HK1.out, HPU.out]
    · obtain rfl : W = i := by omega
      go_wp2_with (first
        | refine wpList_load_row rfl 89 (.tmp 3) rfl w.heap.size rfl 89 _ (0, 0) _ HK1.out Tryd.underlying89 rfl size89 ?_
        | refine wpList_store_row rfl 89 (.tmp 6) (.tmp 23) rfl (w.heap.size + 1) _ rfl rfl 89 _ HK2.out size89 rfl (octs_one _) ?_)
      have hset := setRow_heap wr (w.heap.size + 1) _ (octs (below (fun _ => true) W)).toArray 89 (0, 0) HK2.out
      refine bodyPost_ret (results_cell_row rfl _ _ (w.heap.size + 1) 89 _ (0, 0) _ rfl hset Tryd.underlying89 rfl size89) rfl ⟨?_, ?_⟩
      · rw [below_tt]
      · exact below_setRow HBr.out (by omega) _
set_option maxRecDepth 100000 in
set_option maxHeartbeats 4000000 in
theorem filled_no (w : World) (W : Nat) :
    Calls Tryd.prog 84 #[.agg #[.int .u8 0, .int .u8 0, .int .u8 0, .int .u8 0, .int .u8 0, .int .u8 0, .int .u8 0, .int .u8 0, .int .u8 0, .int .u8 0, .int .u8 0, .int .u8 0, .int .u8 0, .int .u8 0, .int .u8 0, .int .u8 0, .int .u8 0, .int .u8 0, .int .u8 0, .int .u8 0, .int .u8 0, .int .u8 0, .int .u8 0, .int .u8 0, .int .u8 0, .int .u8 0, .int .u8 0, .int .u8 0, .int .u8 0, .int .u8 0, .int .u8 0, .int .u8 0], .int .i64 (W : Nat), .bool false] w fun e w' => e = .returned (.agg (octs (fillF false W)).toArray) ∧ Below w.heap.size w w' := by
  have hq := ((Below.refl w.heap.size w).alloc (Nat.le_refl _) (.cells (octs (fun _ => false)).toArray 89)).alloc (by simp) (.cells (octs (fun _ => false)).toArray 89)
  have HB := hide hq
  have HA := hide (heap_alloc2_old w (.cells (octs (fun _ => false)).toArray 89) (.cells (octs (fun _ => false)).toArray 89))
  have HN := hide (heap_alloc2_new w (.cells (octs (fun _ => false)).toArray 89) (.cells (octs (fun _ => false)).toArray 89))
  rw [← octs_none] at hq HB HA HN
  have HZ := hide octs_none
  clear hq
  go_enter Tryd.func84, Tryd.ntmps84
  go_upto_region 1 with (fail)
  generalize (w.alloc _).alloc _ = w2 at *
  rw [HZ.out] at HA HN
  have hs2 := HB.out.size
  go_wp2_with (first
    | refine wpList_load_row rfl 89 (.tmp 3) rfl w.heap.size rfl 89 _ (0, 0) _ HA.out Tryd.underlying89 rfl size89 ?_
    | refine wpList_store_row rfl 89 (.tmp 6) (.tmp 23) rfl (w.heap.size + 1) _ rfl rfl 89 _ HN.out size89 rfl (octs_one _) ?_)
  have hset := setRow_heap w2 (w.heap.size + 1) _ (octs (fun _ => false)).toArray 89 (0, 0) HN.out
  refine bodyPost_ret (results_cell_row rfl _ _ (w.heap.size + 1) 89 _ (0, 0) _ rfl hset Tryd.underlying89 rfl size89) rfl ⟨?_, ?_⟩
  · rw [fill_ff]
  · exact below_setRow HB.out (by omega) _
end Go.Proofs.YtmkbbekeimnajaaDoor
