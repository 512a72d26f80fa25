/- what stays over the rounds of DocsetIters -/
import Derived.Test.YtmkbbekeimnajaaDoorRa
import Derived.Test.YtmkbbekeimnajaaDoorRt
import Derived.Test.YtmkbbekeimnajaaDoorIt
import Derived.Test.YtmkbbekeimnajaaDoorFx
import Derived.Test.YtmkbbekeimnajaaDoorRk
namespace Go.Proofs.YtmkbbekeimnajaaDoor
open Go.RowKit Ds
/-- all blocks of cells lie as they lay -/
def KeepC (X C : World) : Prop := ∀ (k : Nat) (cs : Array Value) (t : TypeId) (fr : Nat × Nat), X.heap[k]? = some (.cells cs t fr) → C.heap[k]? = some (.cells cs t fr)
theorem keepC_grown {X C : World} {row : Option Nat} (hg : X.grownBy C row) (hr : ∀ r, row = some r → ∃ o : Obj, X.heap[r]? = some o ∧ o.isCells = false) : KeepC X C := fun k cs t fr hk => by
  refine (hg.block k (heap_lt hk) (fun e => ?_)).trans hk
  obtain ⟨o, ho, hn⟩ := hr k e.symm
  rw [hk] at ho
  cases ho
  cases hn
theorem keepC_below {X C : World} (hb : Below X.heap.size X C) : KeepC X C := fun k _ _ _ hk => (hb.block k (heap_lt hk)).trans hk
theorem SetAt.keepC {X C : World} {S g cap n : Nat} {m : Nat → Bool} (h : SetAt X S g cap n m) (hk : KeepC X C) : SetAt C S g cap n m := by
  obtain ⟨cur, h1, h2, h3⟩ := h.ws
  exact ⟨hk _ _ _ _ h.hd, ⟨cur, hk _ _ _ _ h1, h2, h3⟩, h.cap, h.off, h.small⟩
structure Sit (w W1 X : World) (S g cap N b13 b8 at_ : Nat) : Prop where
  below : Below w.heap.size w X
  size : W1.heap.size ≤ X.heap.size
  rest : ∀ (k : Nat) (cs : Array Value) (t : TypeId) (fr : Nat × Nat), W1.heap[k]? = some (.cells cs t fr) → k ≠ S → k ≠ g → k ≠ b13 → k ≠ b8 → X.heap[k]? = some (.cells cs t fr)
  set : ∃ m, SetAt X S g cap N m
  idx : X.heap[b13]? = some (.cells #[.int .i64 (at_ : Nat)] 3 (0, 0))
  res : X.heap[b8]? = some (.cells #[.bool false] 4 (0, 0))
section
variable {w W1 X C : World} {S g cap N b13 b8 at_ : Nat}
theorem Sit.keepC (h : Sit w W1 X S g cap N b13 b8 at_) (hk : KeepC X C) (hb : Below w.heap.size X C) : Sit w W1 C S g cap N b13 b8 at_ :=
  ⟨h.below.trans hb, Nat.le_trans h.size hb.size, fun k cs t fr hx a b c d => hk _ _ _ _ (h.rest k cs t fr hx a b c d), let ⟨m, hm⟩ := h.set; ⟨m, hm.keepC hk⟩, hk _ _ _ _ h.idx, hk _ _ _ _ h.res⟩
theorem Sit.grown {row : Option Nat} (h : Sit w W1 X S g cap N b13 b8 at_) (hw : w.heap.size ≤ W1.heap.size) (hg : X.grownBy C row) (hr : ∀ r, row = some r → W1.heap.size ≤ r ∧ ∃ o : Obj, X.heap[r]? = some o ∧ o.isCells = false) : Sit w W1 C S g cap N b13 b8 at_ :=
  h.keepC (keepC_grown hg (fun r e => (hr r e).2)) ((Below.refl _ X).grown hg h.below.size (fun r e => Nat.le_trans hw (hr r e).1))
theorem Sit.later (h : Sit w W1 X S g cap N b13 b8 at_) (hb : Below X.heap.size X C) : Sit w W1 C S g cap N b13 b8 at_ :=
  h.keepC (keepC_below hb) (hb.mono h.below.size)
theorem Sit.drew (h : Sit w W1 X S g cap N b13 b8 at_) (q : Nat) : Sit w W1 (X.drewN q) S g cap N b13 b8 at_ := h.later (below_drewN (Below.refl _ _) q)
/-- the set has changed -/
theorem Sit.foot {m : Nat → Bool} (h : Sit w W1 X S g cap N b13 b8 at_) (hs : SetAt C S g cap N m) (hf : Foot X C (fun k => k = S ∨ k = g)) (hS : w.heap.size ≤ S) (hgg : w.heap.size ≤ g) (e1 : S ≠ b13) (e2 : S ≠ b8) (e3 : g ≠ b13) (e4 : g ≠ b8) : Sit w W1 C S g cap N b13 b8 at_ := by
  have kb : ∀ (k : Nat) (o : Obj), X.heap[k]? = some o → k ≠ S → k ≠ g → C.heap[k]? = some o := fun k o hk a b => (hf.block k (heap_lt hk) (fun h => h.elim a b)).trans hk
  exact ⟨h.below.trans (hf.below (fun k hk => by rcases hk with rfl | rfl <;> assumption) h.below.size), Nat.le_trans h.size hf.size, fun k cs t fr hx a b c d => kb k _ (h.rest k cs t fr hx a b c d) a b, ⟨m, hs⟩, kb _ _ h.idx e1.symm e3.symm, kb _ _ h.res e2.symm e4.symm⟩
/-- a step of the index -/
theorem Sit.step (h : Sit w W1 X S g cap N b13 b8 at_) (k : Nat) (e1 : S ≠ b13) (e3 : g ≠ b13) (e5 : b8 ≠ b13) (hw : w.heap.size ≤ b13) : Sit w W1 (X.setCell ⟨b13, 0, none⟩ (.int .i64 (k : Nat))) S g cap N b13 b8 k := by
  have kb : ∀ (i : Nat) (o : Obj), X.heap[i]? = some o → i ≠ b13 → (X.setCell ⟨b13, 0, none⟩ (.int .i64 (k : Nat))).heap[i]? = some o := fun i o hk a => heap_else hk a _
  obtain ⟨m, hs⟩ := h.set
  obtain ⟨cur, h1, h2, h3⟩ := hs.ws
  refine ⟨below_set h.below hw _, by rw [World.size_setCell]; exact h.size, fun i cs t fr hx a b c d => kb i _ (h.rest i cs t fr hx a b c d) c, ⟨m, kb _ _ hs.hd e1, ⟨cur, kb _ _ h1 e3, h2, h3⟩, hs.cap, hs.off, hs.small⟩, ?_, kb _ _ h.res e5⟩
  rw [heap_set h.idx]
  rfl
end
/-- Add and Remove, whatever the number -/
theorem add_is (w : World) {S g cap n : Nat} {m : Nat → Bool} (h : SetAt w S g cap n m) (i : Int) (a : Addr) (hE : ErrAt w 0 a) :
    Calls Tryd.prog 16 #[.pointer (some ⟨S, 0, none⟩), .int .i64 i] w fun e w' => (∃ v, e = .returned v) ∧ (∃ m', SetAt w' S g cap n m') ∧ Foot w w' (fun k => k = S ∨ k = g) := by
  by_cases hi : i < 0 ∨ n ≤ i
  · exact (add_out w h i hi a hE).mono fun e w' ⟨he, q, hq⟩ => ⟨⟨_, he⟩, ⟨m, by rw [hq]; exact h.keep (below_drewN (Below.refl _ _) q)⟩, by rw [hq]; exact (Foot.refl w _).drewN q⟩
  · obtain ⟨j, rfl⟩ := Int.eq_ofNat_of_zero_le (show 0 ≤ i by omega)
    by_cases hm : m j = true
    · exact (add_old w h j (by omega) hm).mono fun e w' ⟨he, hw⟩ => ⟨⟨_, he⟩, by subst hw; exact ⟨m, h⟩, by subst hw; exact Foot.refl w _⟩
    · exact (add_new w h j (by omega) (by simpa using hm)).mono fun e w' ⟨he, hs, hf⟩ => ⟨⟨_, he⟩, ⟨_, hs⟩, hf⟩
theorem rem_is (w : World) {S g cap n : Nat} {m : Nat → Bool} (h : SetAt w S g cap n m) (i : Int) (a : Addr) (hE : ErrAt w 0 a) :
    Calls Tryd.prog 15 #[.pointer (some ⟨S, 0, none⟩), .int .i64 i] w fun e w' => (∃ v, e = .returned v) ∧ (∃ m', SetAt w' S g cap n m') ∧ Foot w w' (fun k => k = S ∨ k = g) := by
  by_cases hi : i < 0 ∨ n ≤ i
  · exact (rem_out w h i hi a hE).mono fun e w' ⟨he, q, hq⟩ => ⟨⟨_, he⟩, ⟨m, by rw [hq]; exact h.keep (below_drewN (Below.refl _ _) q)⟩, by rw [hq]; exact (Foot.refl w _).drewN q⟩
  · obtain ⟨j, rfl⟩ := Int.eq_ofNat_of_zero_le (show 0 ≤ i by omega)
    by_cases hm : m j = true
    · exact (rem_new w h j (by omega) hm).mono fun e w' ⟨he, hs, hf⟩ => ⟨⟨_, he⟩, ⟨_, hs⟩, hf⟩
    · exact (rem_old w h j (by omega) (by simpa using hm)).mono fun e w' ⟨he, hw⟩ => ⟨⟨_, he⟩, by subst hw; exact ⟨m, h⟩, by subst hw; exact Foot.refl w _⟩
end Go.Proofs.YtmkbbekeimnajaaDoor
