/- blockOf -/
import Derived.Test.YtmkbbekeimnajaaDoorBo
import Derived.Laws.Rows
import Derived.Laws.Tables
namespace Go.Proofs.YtmkbbekeimnajaaDoor
open Go.RowKit Ds
theorem size89 : (Tryd.prog.info? 89).map (·.size) = some 32 := by kernel_rfl
theorem octs_one (m : Nat → Bool) : (octs m).toArray.all (·.oneCell') = true := by
  rw [Array.all_eq_true']
  intro u hu
  simp only [List.mem_toArray, octs, List.mem_map] at hu
  obtain ⟨j, _, rfl⟩ := hu
  rfl
theorem cnt_step (m : Nat → Bool) (i : Nat) (b : Bool) (h : m i = b) : cnt m (i + 1) = cnt m i + if b then 1 else 0 := by rw [cnt_succ, h]
theorem results_cell3 {P : Program} {fn : Func} {p u v : Tmp} {ty : TypeId} (h : fn.results = #[.cell p ty, .tmp u, .tmp v]) (tmps : Array Value) (w : World) (g : Nat) (t : TypeId) (cs : Array Value) (fr : Nat × Nat) (d : TypeDesc)
    (hp : tmps.getD p undef = .pointer (some ⟨g, 0, none⟩)) (hg : w.heap[g]? = some (.cells cs t fr))
    (hu : P.underlying ty = some d) (hd : (match d with | .struct _ | .array _ _ => true | _ => false) = true) (hi : (P.info? ty).map (·.size) = some cs.size) :
    (results fn tmps).run P w = .ok (.tuple #[.agg cs, tmps.getD u undef, tmps.getD v undef]) w := by
  have hp' : tmps[p]?.getD undef = .pointer (some ⟨g, 0, none⟩) := by simpa using hp
  simp [results, h, hp', asAddr, run_loadVar_row w g t ty cs fr d hg hu hd hi, Result.andThen]
set_option maxRecDepth 100000 in
set_option maxHeartbeats 4000000 in
theorem block_of (w : World) {S g cap n : Nat} {m : Nat → Bool} (h : SetAt w S g cap n m) (j : Nat) (hj : 256 * j < n) :
    Calls Tryd.prog 49 #[.pointer (some ⟨S, 0, none⟩), .int .i64 (j : Nat)] w fun e w' => e = .returned (.tuple #[.agg (octs (blk m j)).toArray, .int .i64 (wid n j : Nat), .int .i64 (cnt (blk m j) (wid n j) : Nat)]) ∧ Below w.heap.size w w' := by
  have HS := hide h
  have hsm := h.small
  have hq := ((Below.refl w.heap.size w).alloc (Nat.le_refl _) (.cells (octs (fun _ => false)).toArray 89)).alloc (by simp) (.cells (octs (fun _ => false)).toArray 89)
  have HB := hide hq
  have HA := hide (heap_alloc2_old w (.cells (octs (fun _ => false)).toArray 89) (.cells (octs (fun _ => false)).toArray 89))
  have HN := hide (heap_alloc2_new w (.cells (octs (fun _ => false)).toArray 89) (.cells (octs (fun _ => false)).toArray 89))
  rw [← octs_none] at hq HB HA HN
  have HZ := hide octs_none
  obtain ⟨b, hb⟩ : ∃ b, wid n j = b := ⟨_, rfl⟩
  have hbw : b ≤ 256 := by rw [← hb]; exact wid_le n j
  have hmin : min (256 : Int) ((n : Int) - 256 * (j : Int)) = (b : Int) := by rw [← hb]; unfold wid; omega
  have hif : (if (n : Int) - 256 * (j : Int) < 256 then (n : Int) - 256 * (j : Int) else 256) = (b : Int) := by rw [← hb]; unfold wid; split <;> omega
  have hbn : 256 * j + b ≤ n := by rw [← hb]; unfold wid; omega
  have HBE := hide hb
  rw [hb]
  obtain ⟨c0, c1, c2⟩ := cells3 (HS.out.keep hq).hd
  obtain ⟨f, hf⟩ : ∃ f, blk m j = f := ⟨_, rfl⟩
  have HF := hide (fun i => congrFun hf i)
  rw [hf]
  have HFE := hide hf
  clear hf
  clear hb hq h
  go_enter Tryd.func49, Tryd.ntmps49
  go_upto_region 2 with (fail)
  generalize (w.alloc _).alloc _ = w2 at *
  have hs2 := HB.out.size
  rw [HZ.out] at HA HN
  go_wp2_with fail
  clear c0 c1 c2 hmin hif
  go_loopw [9, 20] (fun c k wr => ∃ i : Nat, k = .int .i64 (i : Nat) ∧ c = .int .i64 (cnt f i : Nat) ∧ i ≤ b ∧ wr.heap[w.heap.size + 1]? = some (.cells (octs (below f i)).toArray 89 (0, 0)) ∧ wr.heap[w.heap.size]? = some (.cells (octs (fun _ => false)).toArray 89 (0, 0)) ∧ Below w.heap.size w wr) (fun _ k _ => b - (intOf k).toNat)
  case atStart => exact ⟨0, rfl, by simp [cnt, Ds.mem], by omega, by rw [below_zero]; exact HN.out, HA.out, HB.out⟩
  case round =>
    obtain ⟨i, rfl, rfl, hi, hk1, hk2, hbr⟩ := hrel
    have HK1 := hide hk1
    have HK2 := hide hk2
    have HBr := hide hbr
    have hsr := hbr.size
    clear hk1 hk2 hbr HA HN HB
    by_cases hlt : i < b
    · have hi1 : (i : Int) < (b : Int) := by omega
      obtain ⟨y, hy⟩ : ∃ y, 256 * j + i = y := ⟨_, rfl⟩
      have hyi : 256 * (j : Int) + (i : Int) = (y : Int) := by omega
      have hyn : y < n := by omega
      have HHA := hide (has_in wr (HS.out.keep HBr.out) y hyn)
      have hmy : m y = f i := by rw [← hy]; exact HF.out i
      rw [hmy] at HHA
      clear hy hmy
      have hcf : cnt f i ≤ i := cnt_le f i
      cases hm : f i with
      | true =>
        rw [hm] at HHA
        obtain ⟨q, hq⟩ : ∃ q, i / 8 = q := ⟨_, rfl⟩
        obtain ⟨r, hr⟩ : ∃ r, i % 8 = r := ⟨_, rfl⟩
        have hqi : (i : Int) / 8 = (q : Int) := by omega
        have hri : (i : Int) % 8 = (r : Int) := by omega
        have hq32 : q < 32 := by omega
        have hO := or_bit8 (below f i) i
        rw [hq, hr, IntKind.wrap_u8] at hO
        have HPU := hide (show ((octs (below f i)).toArray.setIfInBounds q (.int .u8 (oct (put (below f i) i true) q : Nat))) = (octs (below f (i + 1))).toArray from by rw [← hq, octs_put, below_yes hm])
        have HC := hide (cnt_step f i true hm)
        have hcc : wr.cell? ⟨w.heap.size + 1, q, none⟩ = some (.int .u8 (oct (below f i) q : Nat)) := by
          rw [cell_at HK1.out]
          have := octs_get (below f i) hq32
          simpa using this
        have hff := free_at HK1.out q
        have hw1 : IntKind.i64.wrap ((cnt f i : Int) + 1) = (cnt f i : Int) + 1 := by rw [IntKind.wrap_i64]; omega
        have hr8 : r < 8 := by omega
        clear hq hr hm
        go_wp2_with fail
        refine HHA.out.mono ?_
        rintro e wz ⟨rfl, rfl⟩
        go_wp2_with fail
        go_region
        go_wp2_with fail
        refine ⟨⟨i + 1, by simp, by rw [HC.out]; simp, by omega, ?_, heap_else HK2.out (by omega) _, (below_set HBr.out (by omega) _).drew⟩, by simp [intOf]; omega⟩
        show (wr.setCell ⟨w.heap.size + 1, q, none⟩ (.int .u8 (oct (put (below f i) i true) q : Nat))).heap[w.heap.size + 1]? = _
        rw [heap_set HK1.out, HPU.out]
      | false =>
        rw [hm] at HHA
        have HBE2 := hide (below_no hm)
        have HC := hide (cnt_step f i false hm)
        clear hm
        go_wp2_with fail
        refine HHA.out.mono ?_
        rintro e wz ⟨rfl, rfl⟩
        go_wp2_with fail
        exact ⟨⟨i + 1, by simp, by rw [HC.out]; simp, by omega, by rw [HBE2.out]; exact HK1.out, HK2.out, HBr.out⟩, by simp [intOf]; omega⟩
    · obtain rfl : i = b := by omega
      go_wp2_with (first
        | refine wpList_load_row rfl 89 (.tmp 7) rfl (w.heap.size + 1) rfl 89 _ (0, 0) _ HK1.out Tryd.underlying89 rfl size89 ?_
        | refine wpList_store_row rfl 89 (.tmp 4) (.tmp 41) rfl w.heap.size _ rfl rfl 89 _ HK2.out size89 rfl (octs_one _) ?_)
      have hset := setRow_heap wr w.heap.size _ (octs (below f i)).toArray 89 (0, 0) HK2.out
      refine bodyPost_ret (results_cell3 rfl _ _ w.heap.size 89 _ (0, 0) _ rfl hset Tryd.underlying89 rfl size89) rfl ⟨?_, ?_⟩
      · have he : octs (below f i) = octs f := octs_congr fun k hk => by
          unfold below
          by_cases hkb : k < i
          · rw [decide_eq_true hkb, Bool.true_and]
          · rw [decide_eq_false hkb, Bool.false_and, ← HFE.out]
            have := HBE.out
            unfold wid at this
            exact (HS.out.off (256 * j + k) (by omega)).symm
        rw [he]
        rfl
      · exact below_setRow HBr.out (Nat.le_refl _) _
end Go.Proofs.YtmkbbekeimnajaaDoor
