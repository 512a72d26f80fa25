/- a clone -/
import Derived.Test.YtmkbbekeimnajaaDoorDs3
import Derived.Deep.RegionLaw
namespace Go.Proofs.YtmkbbekeimnajaaDoor
open Go.RowKit Ds
theorem wds_one (m : Nat → Bool) (k : Nat) : ∀ u ∈ wds m k, u.oneCell' = true := by
  intro u hu
  simp only [wds, List.mem_map] at hu
  obtain ⟨n, _, rfl⟩ := hu
  rfl
theorem set_srcc {w : World} {S g cap n : Nat} {m : Nat → Bool} (h : SetAt w S g cap n m) : SrcC w (.slice (some ⟨g, 0, none⟩) (nw n) cap) (nw n) 1 (wds m (nw n)) := by
  refine ⟨by simp [wds], .inr ⟨⟨g, 0, none⟩, cap, rfl, fun j u hj => ?_⟩⟩
  have hjn : j < nw n := by
    have := get_lt' hj
    simpa [wds] using this
  rw [Addr.add_mid, Nat.zero_add, h.cell hjn, ← hj]
  simp [wds, hjn]
set_option maxRecDepth 100000 in
set_option maxHeartbeats 2000000 in
theorem clone_any (w : World) {S g cap n : Nat} {m : Nat → Bool} (h : SetAt w S g cap n m) :
    Calls Tryd.prog 34 #[.pointer (some ⟨S, 0, none⟩)] w fun e w' => ∃ S2 g2 cap2, e = .returned (.pointer (some ⟨S2, 0, none⟩)) ∧ w.heap.size ≤ S2 ∧ w.heap.size ≤ g2 ∧ SetAt w' S2 g2 cap2 n m ∧ Below w.heap.size w w' := by
  obtain ⟨i0, hi, hz0, hz1, hz2⟩ := info_parts info83
  have hsm := h.small
  have hnw : nw n ≤ 16384 := by unfold nw; omega
  have HS := hide h
  clear h
  have HS1 := hide (show SetAt w.drew S g cap n m from HS.out.keep ((Below.refl w.heap.size w).drew))
  have hS1 : S < w.drew.heap.size := heap_lt HS1.out.hd
  have hb2 : Below w.heap.size w (w.alloc (.cells #[] 83)).drew := ((Below.refl w.heap.size w).alloc (Nat.le_refl _) _).drew
  have HS2 := hide (show SetAt (w.alloc (.cells #[] 83)).drew S g cap n m from HS.out.keep hb2)
  have hown : (w.alloc (.cells #[] 83)).drew.ownsRow w.heap.size 83 1 (.slice (some ⟨w.heap.size, 0, none⟩) 0 0) 0 [] :=
    ⟨rfl, .inr ⟨_, 0, #[], rfl, Nat.le_refl _, heap_new (w := w) rfl (.cells #[] 83), Nat.le_refl _, by unfold maxLen; omega, rfl, rfl⟩⟩
  obtain ⟨v6, w6, k1, k2, k3, k4⟩ := run_row (w.alloc (.cells #[] 83)).drew w.heap.size 80 80 83 i0 _ 1 8 Tryd.underlying80 hi hz0 hz1 hz2 rfl (by decide) _ _ 0 (nw n) [] (wds m (nw n)) hown (set_srcc HS2.out) (wds_one _ _) (by unfold maxLen; omega) (by omega) (by show w.heap.size ≤ (w.alloc _).heap.size; rw [World.size_alloc]; exact Nat.le_succ _)
  rw [Nat.zero_add, List.nil_append] at k2
  obtain ⟨g2, cap2, cur, hv, hg2, hcells, hl, hm, hsz, htk⟩ : ∃ g2 cap2 cur, v6 = .slice (some ⟨g2, 0, none⟩) (nw n) cap2 ∧ w.heap.size ≤ g2 ∧ w6.heap[g2]? = some (.cells cur 83 (0, 0)) ∧ nw n ≤ cap2 ∧ cap2 ≤ maxLen ∧ cur.size = cap2 * 1 ∧ cur.toList.take (nw n * 1) = wds m (nw n) := by
    rcases k2.2 with ⟨rfl, _⟩ | h
    · rcases k4 with h | h <;> simp [Value.ownBlock] at h
    · exact h
  subst hv
  rw [Nat.mul_one] at hsz htk
  have hb6 : Below w.heap.size w w6 := hb2.grown k3 (by show w.heap.size ≤ (w.alloc _).heap.size; rw [World.size_alloc]; exact Nat.le_succ _) (fun j hj => (hown.lt j hj).1)
  have HS6 := hide (HS.out.keep hb6)
  obtain ⟨c10, c11, c12⟩ := cells3 HS1.out.hd
  obtain ⟨c20, c21, c22⟩ := cells3 HS2.out.hd
  obtain ⟨c60, c61, c62⟩ := cells3 HS6.out.hd
  have HR6 := hide k1
  have HFS := hide (show SetAt (w6.alloc (.cells #[.int .i64 (n : Nat), .int .i64 (cnt m n : Nat), .slice (some ⟨g2, 0, none⟩) (nw n) cap2] 82)) w6.heap.size g2 cap2 n m from
    ⟨heap_new rfl _, ⟨cur, heap_old hcells _, hsz, htk⟩, ⟨hl, hm⟩, HS.out.off, HS.out.small⟩)
  have hs6 := hb6.size
  have HFB := hide (hb6.alloc hs6 (.cells #[.int .i64 (n : Nat), .int .i64 (cnt m n : Nat), .slice (some ⟨g2, 0, none⟩) (nw n) cap2] 82))
  clear k1 k2 k3 k4 hb2 hb6 hown HS HS1 HS2 HS6 hcells hl hm hsz htk hS1
  go_enter Tryd.func34, Tryd.ntmps34
  go_wp2_with fail
  go_region_law (refine step_run 80 _ w6 _ _ _ rfl (.tmp 11) (.tmp 15) rfl rfl rfl HR6.out ?_)
  all_goals
    go_wp2_with fail
    go_ret
    exact ⟨w6.heap.size, g2, cap2, rfl, hs6, hg2, HFS.out, HFB.out⟩
end Go.Proofs.YtmkbbekeimnajaaDoor
