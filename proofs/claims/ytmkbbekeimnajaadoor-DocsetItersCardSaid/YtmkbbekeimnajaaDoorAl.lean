/- what All hands out -/
import Derived.Test.YtmkbbekeimnajaaDoorCl
namespace Go.Proofs.YtmkbbekeimnajaaDoor
open Go.RowKit Ds
set_option maxRecDepth 100000 in
set_option maxHeartbeats 2000000 in
theorem all_any (w : World) {S g cap n : Nat} {m : Nat → Bool} (h : SetAt w S g cap n m) :
    Calls Tryd.prog 14 #[.pointer (some ⟨S, 0, none⟩)] w fun e w' => ∃ c S2 g2 cap2, e = .returned (.func (.func 43) #[] #[.pointer (some ⟨c, 0, none⟩)]) ∧ w.heap.size ≤ c ∧ w.heap.size ≤ S2 ∧ w.heap.size ≤ g2 ∧
      w'.heap[c]? = some (.cells #[.pointer (some ⟨S2, 0, none⟩)] 24 (0, 0)) ∧ SetAt w' S2 g2 cap2 n m ∧ Below w.heap.size w w' := by
  have HS := hide h
  clear h
  go_enter Tryd.func14, Tryd.ntmps14
  go_wp2_with fail
  refine (clone_any w HS.out).mono ?_
  rintro e w2 ⟨S2, g2, cap2, rfl, h1, h2, hs2, hb2⟩
  have HS2 := hide hs2
  have HB2 := hide hb2
  have hz2 := hb2.size
  clear hs2 hb2
  go_wp2_with fail
  go_ret
  exact ⟨w2.heap.size, S2, g2, cap2, rfl, hz2, h1, h2, heap_new rfl _, HS2.out.keep ((Below.refl _ w2).alloc (Nat.le_refl _) _), HB2.out.alloc hz2 _⟩
end Go.Proofs.YtmkbbekeimnajaaDoor
