/- linear.twice -/
import Derived.Test.YtgebekklkodpaaaDoorOf
import Derived.Deep.RegionHeld3
import Derived.Deep.DeepCutAuto
namespace Go.Proofs.YtgebekklkodpaaaDoor
open Go.RowKit

theorem size87 : (Tryd.prog.info? 87).map (·.size) = some 32 := by kernel_rfl

set_option maxRecDepth 100000 in
set_option maxHeartbeats 800000 in
theorem twice_any (w : World) (L : Nat → Nat) (hM : Map32 L) :
    Calls Tryd.prog 53 #[.agg (cols L).toArray] w fun e w' => e = .returned (.agg (cols fun a => L (L a)).toArray) ∧ Below w.heap.size w w' := by
  have HM := hide hM
  clear hM
  have hu := Tryd.underlying87
  have hi87 : (Tryd.prog.info? 87).map (·.size) = some (cols L).length := by rw [size87, cols_len]
  have hcl := cols_len L
  have h1c : ∀ v ∈ cols L, v.oneCell' = true := part_one _ _
  go_enter Tryd.func53, Tryd.ntmps53
  go_wp2
  go_loopw [5] (fun c wr => ∃ i : Nat, i ≤ 32 ∧ c = .int .i64 i ∧ wr.heap[w.heap.size]? = some (.cells (cols L).toArray 87 (0, 0)) ∧ (∃ C : Array Value, C.size = 32 ∧ wr.heap[w.heap.size + 1]? = some (.cells C 87 (0, 0))) ∧
      wr.heap[w.heap.size + 1 + 1]? = some (.cells (part (fun i => L (L (2 ^ i))) i).toArray 87 (0, 0)) ∧ Below w.heap.size w wr) (fun c _ => 32 - (intOf c).toNat)
  case atStart =>
    refine ⟨0, by omega, rfl, heap_old (heap_old (heap_alloc_new w _) _) _, ⟨_, ?_, heap_old (heap_new (by simp) _) _⟩, heap_new (by simp) _, (((Below.refl _ _).alloc (Nat.le_refl _) _).alloc (by simp) _).alloc (by simp; omega) _⟩
    rfl
  case round =>
    obtain ⟨i, hi, rfl, hA, ⟨C, hC, hR⟩, hO, hB⟩ := hrel
    by_cases hlt : i < 32
    · have hcm := (cell_at hA i).trans (cols_cell L i hlt)
      have hco := (cell_at hO i).trans (part_cell _ _ _ hlt)
      have hfo := free_at hO i
      have hra := range_at hA
      have lr : L (2 ^ i) < 4294967296 := HM.out.lt _ (Nat.pow_lt_pow_right (a := 2) (m := i) (n := 32) (by omega) hlt)
      have hne : w.heap.size + 1 + 1 ≠ wr.heap.size := by have := heap_lt hO; omega
      have hcoA : ∀ o, (wr.alloc o).cell? ⟨w.heap.size + 1 + 1, i, none⟩ = some (.int .u32 (if i < i then L (L (2 ^ i)) else 0 : Nat)) := fun o => (cell_at (heap_old hO o) i).trans (part_cell _ _ _ hlt)
      have hfoA : ∀ o, (wr.alloc o).frozen? ⟨w.heap.size + 1 + 1, i, none⟩ = false := fun o => free_at (heap_old hO o) i
      rw [if_neg (by omega)] at hco hcoA
      have HA := hide hA
      have HR := hide hR
      have HO := hide hO
      clear hA hR hO
      generalize hq : L (2 ^ i) = q at hcm lr
      have HQ := hide hq
      clear hq
      have i32 : (i : Int) < 32 := by omega
      go_wp2_with fail
      go_region_held3 (fun w' => w'.rangeAt w.heap.size 0 (cols L) ∧ w'.cell? ⟨w.heap.size, i, none⟩ = some (.int .u32 q)) (first | exact ⟨hra, hcm⟩ | exact ⟨World.rangeAt_alloc hra _, by simp [*, World.cell?_alloc_some]⟩ | exact ⟨range_far (World.rangeAt_alloc hra _) (by simp; omega) _, (World.cell?_setCell_far _ _ _ _ (by simp; omega)).trans (by simp [*, World.cell?_alloc_some])⟩)
        (first | (go_at_call 52; refine (of_any _ L HM.out q lr).mono ?_; rintro e w' ⟨rfl, rfl⟩))
      go_wp2
      go_roundw
      case rel =>
        have hA := HA.out
        have hlz := heap_lt HO.out
        refine ⟨i + 1, by omega, by go_num, ?_, ⟨C, hC, ?_⟩, ?_, ?_⟩
        · rw [heap_drew]; exact heap_else (heap_old hA _) (by omega) _
        · rw [heap_drew]; exact heap_else (heap_old HR.out _) (by omega) _
        · rw [heap_drew]
          have h := part_set (fun i => L (L (2 ^ i))) i
          rw [← h]
          have hq := HQ.out
          rw [hq]
          exact heap_set (heap_old HO.out _) _
        · exact (below_set (hB.alloc hB.size _) (by omega) _).drew
      case measure => simp [intOf]; omega
    · obtain rfl : i = 32 := by omega
      have hO2 : wr.heap[w.heap.size + 1 + 1]? = some (.cells (cols (fun a => L (L a))).toArray 87 (0, 0)) := hO
      have hth : wr.there (w.heap.size + 1) 0 32 := fun j hj => ⟨by rw [cell_at hR]; simp [hC, hj], free_at hR _⟩
      have hi2 : (Tryd.prog.info? 87).map (·.size) = some (cols (fun a => L (L a))).length := by rw [size87, cols_len]
      have HA := hide hA
      have HR := hide hR
      have HO := hide hO
      have HO2 := hide hO2
      clear hA hR hO hO2
      go_wp2_with (first
        | (refine wpList_load_mid rfl 87 (.tmp 3) rfl (w.heap.size + 1 + 1) 0 rfl (cols fun a => L (L a)) _ (range_at HO2.out) hu rfl hi2 ?_)
        | (refine wpList_store_mid rfl 87 (.tmp 2) (.tmp 16) rfl (w.heap.size + 1) 0 (cols fun a => L (L a)).toArray rfl rfl (by simpa [cols_len] using hth) hi2 (all_oneCell_toArray (part_one _ _)) ?_))
      have hR' := heap_setCells HR.out (cols fun a => L (L a)) (by rw [cols_len, hC])
      refine bodyPost_ret (results_cell_row rfl _ _ (w.heap.size + 1) _ _ _ _ rfl hR' hu rfl ?_) rfl ⟨rfl, below_setCells (by omega) _ _ hB⟩
      rw [hi2]; simp
end Go.Proofs.YtgebekklkodpaaaDoor
