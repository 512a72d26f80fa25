/- a block's places -/
import Derived.Test.YtmkbbekeimnajaaDoorPl
namespace Go.Proofs.YtmkbbekeimnajaaDoor
open Go.RowKit Ds
set_option maxRecDepth 100000 in
set_option maxHeartbeats 2000000 in
theorem places_any (w : World) (f : Nat → Bool) (b : Nat) (hb : b ≤ 256) (bit : Bool) (z : Int) (hz : z = bv bit) :
    Calls Tryd.prog 53 #[.agg (octs f).toArray, .int .i64 (b : Nat), .int .u8 z] w fun e w' => ∃ v, e = .returned v ∧ Own w' w.heap.size v (Ds.mem (sel f bit) b) ∧ Below w.heap.size w w' := by
  have HZ := hide hz
  have HN := hide (heap_new (w := w) rfl (.cells (octs f).toArray 89))
  have HB := hide ((Below.refl w.heap.size w).alloc (Nat.le_refl _) (.cells (octs f).toArray 89))
  obtain ⟨i0, hi, hz0, hz1, hz2⟩ := info_parts info5
  clear hz
  go_enter Tryd.func53, Tryd.ntmps53
  go_wp2_with fail
  generalize w.alloc (.cells (octs f).toArray 89) = w1 at *
  go_loopw [7, 10] (fun v k wr => ∃ i : Nat, k = .int .i64 (i : Nat) ∧ i ≤ b ∧ Own wr w.heap.size v (Ds.mem (sel f bit) i) ∧ wr.heap[w.heap.size]? = some (.cells (octs f).toArray 89 (0, 0)) ∧ Below w.heap.size w wr) (fun _ k _ => b - (intOf k).toNat)
  case atStart => exact ⟨0, rfl, by omega, World.ownsRow_nil _ _ _ _, HN.out, HB.out⟩
  case round =>
    obtain ⟨i, rfl, hi2, hown, hk, hbr⟩ := hrel
    have HO := hide hown
    have HK := hide hk
    have HBr := hide hbr
    have hsr := hbr.size
    obtain ⟨vo, vc, rfl⟩ := row_shape hown
    clear hown hk hbr HN HB
    by_cases hlt : i < b
    · have hi1 : (i : Int) < (b : Int) := by omega
      obtain ⟨q, hq⟩ : ∃ q, i / 8 = q := ⟨_, rfl⟩
      obtain ⟨r, hr⟩ : ∃ r, i % 8 = r := ⟨_, rfl⟩
      have hqi : (i : Int) / 8 = (q : Int) := by omega
      have hri : (i : Int) % 8 = (r : Int) := by omega
      have hq32 : q < 32 := by omega
      have hr8 : r < 8 := by omega
      have hA := has_bit8 f i
      rw [hq, hr] at hA
      have hcc : wr.cell? ⟨w.heap.size, q, none⟩ = some (.int .u8 (oct f q : Nat)) := by
        rw [cell_at HK.out]
        have := octs_get f hq32
        simpa using this
      have HMS := hide (mem_succ (sel f bit) i)
      have hml : (Ds.mem (sel f bit) i).length ≤ i := cnt_le _ _
      clear hq hr
      by_cases hm : f i = bit
      · have hzz : ((if f i then 1 else 0 : Int) == z) = true := by rw [HZ.out, hm]; simp [bv]
        have HSL := hide (show sel f bit i = true from by unfold sel; rw [hm]; simp)
        obtain ⟨v6, w6, k1, k2, k3, k4⟩ := run_row (wr.alloc (.cells #[.int .u8 (i : Nat)] 5)) w.heap.size 46 46 5 i0 _ 1 1 Tryd.underlying46 hi hz0 hz1 hz2 rfl (by decide) (.slice vo (Ds.mem (sel f bit) i).length vc) (.slice (some ⟨wr.heap.size, 0, none⟩) 1 1) (Ds.mem (sel f bit) i).length 1 (u8s (Ds.mem (sel f bit) i)) (u8s [i]) (World.ownsRow.alloc HO.out _) (srcc_byte (heap_new rfl _)) (u8s_one _) (by simp only [maxLen]; omega) (by omega) (by rw [World.size_alloc]; omega)
        obtain ⟨vo6, vc6, rfl⟩ := row_shape k2
        have HR6 := hide k1
        have HB6 := hide (show Below w.heap.size w w6 from (HBr.out.alloc hsr _).grown k3 (by rw [World.size_alloc]; omega) (fun j hj => (World.ownsRow.lt HO.out j hj).1))
        have HO6 := hide (show Own w6 w.heap.size (.slice vo6 ((Ds.mem (sel f bit) i).length + 1) vc6) (Ds.mem (sel f bit) (i + 1)) from by
          unfold Own
          rw [HMS.out, HSL.out, if_pos rfl, u8s_app, List.length_append]
          exact k2)
        have HK6 := hide (keepTy_grown k3 (notTy_row (World.ownsRow.alloc HO.out (.cells #[.int .u8 (i : Nat)] 5)) (t := 89) (by decide)) _ _ _ (heap_old HK.out (.cells #[.int .u8 (i : Nat)] 5)))
        clear k1 k2 k3 k4 hm
        go_wp2_with (at_builtin; refine wpList_run 46 _ w6 _ _ _ rfl (.tmp 23) (.tmp 26) rfl rfl rfl HR6.out ?_)
        exact ⟨⟨i + 1, by simp, by omega, HO6.out, HK6.out, HB6.out⟩, by simp only [intOf]; omega⟩
      · have hzz : ((if f i then 1 else 0 : Int) == z) = false := by
          rw [HZ.out]
          cases h1 : f i <;> cases h2 : bit <;> simp_all [bv]
        have HSL := hide (show sel f bit i = false from by unfold sel; simp [hm])
        have HO6 := hide (show Own wr w.heap.size (.slice vo (Ds.mem (sel f bit) i).length vc) (Ds.mem (sel f bit) (i + 1)) from by
          rw [HMS.out, HSL.out, if_neg (by simp), List.append_nil]
          exact HO.out)
        clear hm
        go_wp2_with fail
        exact ⟨⟨i + 1, by simp, by omega, HO6.out, HK.out, HBr.out⟩, by simp only [intOf]; omega⟩
    · have hib : i = b := by omega
      subst hib
      have hlt2 : ¬ (i : Int) < (i : Int) := by omega
      go_wp2_with fail
      go_ret
      exact ⟨_, rfl, HO.out, HBr.out⟩
end Go.Proofs.YtmkbbekeimnajaaDoor
