/- texts of this proof, one behind the other: It Si WCanon Flp Gr Tr -/
import Derived.Test.YtmkbbekeimnajaaDoorMMemory0
import Derived.Test.YtmkbbekeimnajaaDoorMMemory1
import Derived.Test.YtmkbbekeimnajaaDoorMMemory2
import Derived.Test.YtmkbbekeimnajaaDoorMMemory3
import Derived.Test.YtmkbbekeimnajaaDoorMMemory4
import Derived.Test.YtmkbbekeimnajaaDoorMMemory5
import Derived.Test.YtmkbbekeimnajaaDoorMMemory6
import Derived.Test.YtmkbbekeimnajaaDoorMMemory7
import Derived.Test.YtmkbbekeimnajaaDoorMMemory8
import Derived.Test.YtmkbbekeimnajaaDoorMMemory9
import Derived.Test.YtmkbbekeimnajaaDoorMMemory10
import Derived.Test.YtmkbbekeimnajaaDoorMMemory11
import Derived.Test.YtmkbbekeimnajaaDoorMMemory12
import Derived.RangeFuncLeaves
import Derived.RangeFuncCalls
import Derived.Shelf.Abstract
import Derived.Shelf.RegionOpen
import Derived.OwnWalkIn
import Derived.TacticsInMore
import Derived.LoopNIn
import Derived.LoopIn
import Derived.Deep.AppendLies
/-! It: what the iterator of All tells -/
namespace Go.Proofs.YtmkbbekeimnajaaDoor
open Go.RowKit Ds
theorem set_same {S : Nat → Prop} {w w' : World} {A g cap n : Nat} {m : Nat → Bool} (h : SetAt w A g cap n m) (hs : Same S w w') (hA : S A) (hg : S g) : SetAt w' A g cap n m := by
  obtain ⟨cur, h1, h2, h3⟩ := h.ws
  exact ⟨hs.same _ _ hA h.hd, ⟨cur, hs.same _ _ hg h1, h2, h3⟩, h.cap, h.off, h.small⟩
theorem debr_same {S : Nat → Prop} {w w' : World} (h : DeBr w) (hs : Same S w w') (hS : S 15) : DeBr w' := fun j hj => same_cell hs hS (h j hj)
theorem wide_depth {n : Nat} : Fence.wide.depth.isSome = true → 1 ≤ n := fun h => by cases h
theorem mem_take {m : Nat → Bool} {n k x : Nat} (h : (Ds.mem m n)[k]? = some x) : (Ds.mem m n).take (k + 1) = (Ds.mem m n).take k ++ [x] := by
  rw [List.take_add_one, h]; rfl
def itEnc (x : Nat) : Array Value := #[.int .i64 (x : Nat)]
def itAt (ms : List Nat) (pre : List Nat) (_ : World) (x : Nat) (_ : World) : Prop := ms[pre.length]? = some x
set_option maxRecDepth 100000 in
set_option maxHeartbeats 4000000 in
theorem all_tells (S : Nat → Prop) (l0 c A g cap n : Nat) (m : Nat → Bool) (w : World) (hs : SetAt w A g cap n m) (hT : DeBr w) (hc : w.heap[c]? = some (.cells #[.pointer (some ⟨A, 0, none⟩)] 24 (0, 0)))
    (h15 : S 15) (hSc : S c) (hSA : S A) (hSg : S g) :
    TellsAt Fence.wide l0 Tryd.prog 43 #[.pointer (some ⟨c, 0, none⟩)] itEnc (itAt (Ds.mem m n)) (fun xs => xs = Ds.mem m n) (fun pre => ∃ k, k < cnt m n ∧ pre = (Ds.mem m n).take (k + 1)) S w := fun l J Jx W hW hJ hJx hY hst => by
  have hbW : Same S w W := same_below hW
  have hsm := hs.small
  have HS := hide hs
  have HT := hide hT
  have HC := hide hc
  have HY := hide hY
  have HJ := hide hJ
  have HBW := hide hbW
  have HST := hide hst
  clear hs hT hc hY hJ hbW hst hW
  refine callsIn_of_wp Tryd.func43 rfl trivial ?_ rfl
  simp only [Tryd.ntmps43, List.size_toArray, List.length_cons, List.length_nil, Nat.reduceAdd, Nat.reduceSub, Array.replicate_succ, Array.replicate_zero, List.push_toArray, List.append_toArray, List.nil_append, List.cons_append]
  have c0 := cell_of_one (HBW.out.same _ _ hSc HC.out)
  gi_wp2_with fail
  refine ⟨trivial, wide_depth, (callsIn_wide.2 (next_any W (set_same HS.out HBW.out hSA hSg) (debr_same HT.out HBW.out h15) 0)).mono ?_⟩
  rintro e W2 ⟨hno, rfl⟩
  obtain ⟨a, b, rfl, hat⟩ := next_at hno
  have HAT := hide (show AtK m n 0 a b from by simpa [cnt, Ds.mem] using hat)
  clear hno hat c0
  gi_wp2_with fail
  gi_loopw [3, 4] (fun a b wr => ∃ k, k ≤ cnt m n ∧ AtK m n k a b ∧ J ((Ds.mem m n).take k) wr ∧ Same S w wr) (fun a b _ => match b with | .bool true => cnt m n + 1 - cnt m ((intOf a).toNat + 1) | _ => 0)
  case atStart => exact ⟨0, Nat.zero_le _, HAT.out, HST.out, HBW.out⟩
  case round =>
    obtain ⟨k, hk, hat, hj, hb⟩ := hrel
    have HJr := hide hj
    have HB := hide hb
    have c0 := cell_of_one (HB.out.same _ _ hSc HC.out)
    clear hj hb HST HBW HAT
    unfold AtK at hat
    cases hx : (Ds.mem m n)[k]? with
    | none =>
      rw [hx] at hat
      obtain ⟨rfl, rfl⟩ := hat
      have hke : cnt m n ≤ k := List.getElem?_eq_none_iff.1 hx
      have hkk : k = cnt m n := by omega
      have HKK := hide hkk
      have HF := hide (show J (Ds.mem m n) wr from by
        have := HJr.out
        rw [HKK.out, List.take_of_length_le (by unfold cnt; exact Nat.le_refl _)] at this
        exact this)
      clear hx hkk hke
      gi_wp2_with fail
      go_end0
      exact ⟨⟨_, rfl⟩, .inl ⟨_, rfl, HF.out⟩⟩
    | some x =>
      rw [hx] at hat
      obtain ⟨rfl, rfl⟩ := hat
      obtain ⟨hxn, hc1, htk⟩ := mem_at hx
      have hkl : k < cnt m n := get_lt' hx
      obtain ⟨fn, tmps, assign, bdy, hy, hR⟩ := HY.out ((Ds.mem m n).take k) x wr wr HJr.out (Below.refl _ _) (by unfold itAt; rw [List.length_take, Nat.min_eq_left (by unfold cnt at hkl; omega)]; exact hx)
      have HRD := hide hR
      have HC1 := hide hc1
      have HX := hide (mem_take hx)
      dsimp only [itEnc] at hy
      clear hR hc1 hx htk
      gi_wp2_with fail
      refine ⟨wide_depth, HRD.out.mono ?_⟩
      rintro e W3 (⟨rfl, hJ3, hk3⟩ | ⟨rfl, hJx3⟩)
      · have HJ3 := hide (show J ((Ds.mem m n).take (k + 1)) W3 from by rw [HX.out]; exact hJ3)
        have HB3 := hide (HB.out.trans hk3)
        have c0 := cell_of_one (HB3.out.same _ _ hSc HC.out)
        have hwx : IntKind.i64.wrap ((x : Int) + 1) = (x : Int) + 1 := by rw [IntKind.wrap_i64]; omega
        clear hJ3 hk3 hy
        gi_wp2_with fail
        refine ⟨trivial, wide_depth, (callsIn_wide.2 (next_any W3 (set_same HS.out HB3.out hSA hSg) (debr_same HT.out HB3.out h15) ((x : Int) + 1))).mono ?_⟩
        rintro e W4 ⟨hno, rfl⟩
        obtain ⟨a, b, rfl, hat⟩ := next_at hno
        have HAT := hide (show AtK m n (k + 1) a b from by
          rw [show ((x : Int) + 1).toNat = x + 1 by omega, HC1.out] at hat
          exact hat)
        clear hno hat c0
        gi_wp2_with fail
        refine ⟨⟨k + 1, hkl, HAT.out, HJ3.out, HB3.out⟩, ?_⟩
        have h1 := HAT.out
        unfold AtK at h1
        simp only [intOf, Int.toNat_natCast, HC1.out]
        cases hx2 : (Ds.mem m n)[k + 1]? with
        | none =>
          rw [hx2] at h1
          obtain ⟨rfl, rfl⟩ := h1
          simp only []
          omega
        | some y =>
          rw [hx2] at h1
          obtain ⟨rfl, rfl⟩ := h1
          have := (mem_at hx2).2.1
          have h2 : k + 1 < cnt m n := get_lt' hx2
          simp only [Int.toNat_natCast, this]
          omega
      · have HJx3 := hide (show Jx ((Ds.mem m n).take (k + 1)) W3 from by rw [HX.out]; exact hJx3)
        clear hJx3 hy
        gi_wp2_with fail
        refine bodyPost_ret (results_none rfl _ _ _) rfl ?_
        exact ⟨⟨_, rfl⟩, .inr ⟨_, ⟨k, hkl, rfl⟩, HJx3.out⟩⟩
end Go.Proofs.YtmkbbekeimnajaaDoor

/-! Si: what stays over the rounds of DocsetIters -/
namespace Go.Proofs.YtmkbbekeimnajaaDoor
open Go.RowKit Ds
/-- all blocks of cells lie as they lay -/
def KeepC (X C : World) : Prop := ∀ (k : Nat) (cs : Array Value) (t : TypeId) (fr : Nat × Nat), X.heap[k]? = some (.cells cs t fr) → C.heap[k]? = some (.cells cs t fr)
theorem keepC_grown {X C : World} {row : Option Nat} (hg : X.grownBy C row) (hr : ∀ r, row = some r → ∃ o : Obj, X.heap[r]? = some o ∧ o.isCells = false) : KeepC X C := fun k cs t fr hk => by
  refine (hg.block k (heap_lt hk) (fun e => ?_)).trans hk
  obtain ⟨o, ho, hn⟩ := hr k e.symm
  rw [hk] at ho
  cases ho
  cases hn
theorem keepC_below {X C : World} (hb : Below X.heap.size X C) : KeepC X C := fun k _ _ _ hk => (hb.block k (heap_lt hk)).trans hk
theorem SetAt.keepC {X C : World} {S g cap n : Nat} {m : Nat → Bool} (h : SetAt X S g cap n m) (hk : KeepC X C) : SetAt C S g cap n m := by
  obtain ⟨cur, h1, h2, h3⟩ := h.ws
  exact ⟨hk _ _ _ _ h.hd, ⟨cur, hk _ _ _ _ h1, h2, h3⟩, h.cap, h.off, h.small⟩
structure Sit (w W1 X : World) (S g cap N b13 b8 at_ : Nat) : Prop where
  below : Below w.heap.size w X
  size : W1.heap.size ≤ X.heap.size
  rest : ∀ (k : Nat) (cs : Array Value) (t : TypeId) (fr : Nat × Nat), W1.heap[k]? = some (.cells cs t fr) → k ≠ S → k ≠ g → k ≠ b13 → k ≠ b8 → X.heap[k]? = some (.cells cs t fr)
  set : ∃ m, SetAt X S g cap N m
  idx : X.heap[b13]? = some (.cells #[.int .i64 (at_ : Nat)] 3 (0, 0))
  res : X.heap[b8]? = some (.cells #[.bool false] 4 (0, 0))
section
variable {w W1 X C : World} {S g cap N b13 b8 at_ : Nat}
theorem Sit.keepC (h : Sit w W1 X S g cap N b13 b8 at_) (hk : KeepC X C) (hb : Below w.heap.size X C) : Sit w W1 C S g cap N b13 b8 at_ :=
  ⟨h.below.trans hb, Nat.le_trans h.size hb.size, fun k cs t fr hx a b c d => hk _ _ _ _ (h.rest k cs t fr hx a b c d), let ⟨m, hm⟩ := h.set; ⟨m, hm.keepC hk⟩, hk _ _ _ _ h.idx, hk _ _ _ _ h.res⟩
theorem Sit.grown {row : Option Nat} (h : Sit w W1 X S g cap N b13 b8 at_) (hw : w.heap.size ≤ W1.heap.size) (hg : X.grownBy C row) (hr : ∀ r, row = some r → W1.heap.size ≤ r ∧ ∃ o : Obj, X.heap[r]? = some o ∧ o.isCells = false) : Sit w W1 C S g cap N b13 b8 at_ :=
  h.keepC (keepC_grown hg (fun r e => (hr r e).2)) ((Below.refl _ X).grown hg h.below.size (fun r e => Nat.le_trans hw (hr r e).1))
theorem Sit.later (h : Sit w W1 X S g cap N b13 b8 at_) (hb : Below X.heap.size X C) : Sit w W1 C S g cap N b13 b8 at_ :=
  h.keepC (keepC_below hb) (hb.mono h.below.size)
theorem Sit.drew (h : Sit w W1 X S g cap N b13 b8 at_) (q : Nat) : Sit w W1 (X.drewN q) S g cap N b13 b8 at_ := h.later (below_drewN (Below.refl _ _) q)
/-- the set has changed -/
theorem Sit.foot {m : Nat → Bool} (h : Sit w W1 X S g cap N b13 b8 at_) (hs : SetAt C S g cap N m) (hf : Foot X C (fun k => k = S ∨ k = g)) (hS : w.heap.size ≤ S) (hgg : w.heap.size ≤ g) (e1 : S ≠ b13) (e2 : S ≠ b8) (e3 : g ≠ b13) (e4 : g ≠ b8) : Sit w W1 C S g cap N b13 b8 at_ := by
  have kb : ∀ (k : Nat) (o : Obj), X.heap[k]? = some o → k ≠ S → k ≠ g → C.heap[k]? = some o := fun k o hk a b => (hf.block k (heap_lt hk) (fun h => h.elim a b)).trans hk
  exact ⟨h.below.trans (hf.below (fun k hk => by rcases hk with rfl | rfl <;> assumption) h.below.size), Nat.le_trans h.size hf.size, fun k cs t fr hx a b c d => kb k _ (h.rest k cs t fr hx a b c d) a b, ⟨m, hs⟩, kb _ _ h.idx e1.symm e3.symm, kb _ _ h.res e2.symm e4.symm⟩
/-- a step of the index -/
theorem Sit.step (h : Sit w W1 X S g cap N b13 b8 at_) (k : Nat) (e1 : S ≠ b13) (e3 : g ≠ b13) (e5 : b8 ≠ b13) (hw : w.heap.size ≤ b13) : Sit w W1 (X.setCell ⟨b13, 0, none⟩ (.int .i64 (k : Nat))) S g cap N b13 b8 k := by
  have kb : ∀ (i : Nat) (o : Obj), X.heap[i]? = some o → i ≠ b13 → (X.setCell ⟨b13, 0, none⟩ (.int .i64 (k : Nat))).heap[i]? = some o := fun i o hk a => heap_else hk a _
  obtain ⟨m, hs⟩ := h.set
  obtain ⟨cur, h1, h2, h3⟩ := hs.ws
  refine ⟨below_set h.below hw _, by rw [World.size_setCell]; exact h.size, fun i cs t fr hx a b c d => kb i _ (h.rest i cs t fr hx a b c d) c, ⟨m, kb _ _ hs.hd e1, ⟨cur, kb _ _ h1 e3, h2, h3⟩, hs.cap, hs.off, hs.small⟩, ?_, kb _ _ h.res e5⟩
  rw [heap_set h.idx]
  rfl
end
/-- Add and Remove, whatever the number -/
theorem add_is (w : World) {S g cap n : Nat} {m : Nat → Bool} (h : SetAt w S g cap n m) (i : Int) (a : Addr) (hE : ErrAt w 0 a) :
    Calls Tryd.prog 16 #[.pointer (some ⟨S, 0, none⟩), .int .i64 i] w fun e w' => (∃ v, e = .returned v) ∧ (∃ m', SetAt w' S g cap n m') ∧ Foot w w' (fun k => k = S ∨ k = g) := by
  by_cases hi : i < 0 ∨ n ≤ i
  · exact (add_out w h i hi a hE).mono fun e w' ⟨he, q, hq⟩ => ⟨⟨_, he⟩, ⟨m, by rw [hq]; exact h.keep (below_drewN (Below.refl _ _) q)⟩, by rw [hq]; exact (Foot.refl w _).drewN q⟩
  · obtain ⟨j, rfl⟩ := Int.eq_ofNat_of_zero_le (show 0 ≤ i by omega)
    by_cases hm : m j = true
    · exact (add_old w h j (by omega) hm).mono fun e w' ⟨he, hw⟩ => ⟨⟨_, he⟩, by subst hw; exact ⟨m, h⟩, by subst hw; exact Foot.refl w _⟩
    · exact (add_new w h j (by omega) (by simpa using hm)).mono fun e w' ⟨he, hs, hf⟩ => ⟨⟨_, he⟩, ⟨_, hs⟩, hf⟩
theorem rem_is (w : World) {S g cap n : Nat} {m : Nat → Bool} (h : SetAt w S g cap n m) (i : Int) (a : Addr) (hE : ErrAt w 0 a) :
    Calls Tryd.prog 15 #[.pointer (some ⟨S, 0, none⟩), .int .i64 i] w fun e w' => (∃ v, e = .returned v) ∧ (∃ m', SetAt w' S g cap n m') ∧ Foot w w' (fun k => k = S ∨ k = g) := by
  by_cases hi : i < 0 ∨ n ≤ i
  · exact (rem_out w h i hi a hE).mono fun e w' ⟨he, q, hq⟩ => ⟨⟨_, he⟩, ⟨m, by rw [hq]; exact h.keep (below_drewN (Below.refl _ _) q)⟩, by rw [hq]; exact (Foot.refl w _).drewN q⟩
  · obtain ⟨j, rfl⟩ := Int.eq_ofNat_of_zero_le (show 0 ≤ i by omega)
    by_cases hm : m j = true
    · exact (rem_new w h j (by omega) hm).mono fun e w' ⟨he, hs, hf⟩ => ⟨⟨_, he⟩, ⟨_, hs⟩, hf⟩
    · exact (rem_old w h j (by omega) (by simpa using hm)).mono fun e w' ⟨he, hw⟩ => ⟨⟨_, he⟩, by subst hw; exact ⟨m, h⟩, by subst hw; exact Foot.refl w _⟩
end Go.Proofs.YtmkbbekeimnajaaDoor

/-! WCanon: the walk of DocsetCanon -/
namespace Go.Proofs.YtmkbbekeimnajaaDoor
open Go.RowKit Ds
def addI (n : Nat) (m : Nat → Bool) (z : Int) : Nat → Bool := fun k => m k || (decide (k < n) && decide ((k : Int) = z))
def remI (m : Nat → Bool) (z : Int) : Nat → Bool := fun k => m k && !decide ((k : Int) = z)
theorem addI_in {n : Nat} {m : Nat → Bool} {j : Nat} (hj : j < n) : addI n m (j : Int) = put m j true := by
  funext k
  unfold addI put
  by_cases e : k = j
  · subst e; rw [if_pos rfl, decide_eq_true hj]; simp
  · rw [if_neg e, decide_eq_false (show ¬ (k : Int) = (j : Int) by omega)]; simp
theorem addI_out {n : Nat} {m : Nat → Bool} {z : Int} (hz : z < 0 ∨ n ≤ z) : addI n m z = m := by
  funext k
  unfold addI
  by_cases h : k < n
  · rw [decide_eq_false (show ¬ (k : Int) = z by omega)]; simp
  · rw [decide_eq_false h]; simp
theorem remI_in {m : Nat → Bool} {j : Nat} : remI m (j : Int) = put m j false := by
  funext k
  unfold remI put
  by_cases e : k = j
  · subst e; rw [if_pos rfl]; simp
  · rw [if_neg e, decide_eq_false (show ¬ (k : Int) = (j : Int) by omega)]; simp
theorem remI_out {n : Nat} {m : Nat → Bool} {z : Int} (hm : ∀ i, n ≤ i → m i = false) (hz : z < 0 ∨ n ≤ z) : remI m z = m := by
  funext k
  unfold remI
  by_cases h : k < n
  · rw [decide_eq_false (show ¬ (k : Int) = z by omega)]; simp
  · rw [hm k (by omega)]; rfl
theorem add_z (w : World) {S g cap n : Nat} {m : Nat → Bool} (h : SetAt w S g cap n m) (z : Int) (a : Addr) (hE : ErrAt w 0 a) :
    Calls Tryd.prog 16 #[.pointer (some ⟨S, 0, none⟩), .int .i64 z] w fun e w' => (∃ v, e = .returned v) ∧ SetAt w' S g cap n (addI n m z) ∧ Foot w w' (fun k => k = S ∨ k = g) := by
  by_cases hz : z < 0 ∨ n ≤ z
  · rw [addI_out hz]
    exact (add_out w h z hz a hE).mono fun e w' ⟨he, q, hq⟩ => ⟨⟨_, he⟩, by rw [hq]; exact h.keep (below_drewN (Below.refl _ _) q), by rw [hq]; exact (Foot.refl w _).drewN q⟩
  · obtain ⟨j, rfl⟩ := Int.eq_ofNat_of_zero_le (show 0 ≤ z by omega)
    rw [addI_in (by omega)]
    by_cases hm : m j = true
    · rw [put_same hm]
      exact (add_old w h j (by omega) hm).mono fun e w' ⟨he, hw⟩ => by subst hw; exact ⟨⟨_, he⟩, h, Foot.refl w _⟩
    · exact (add_new w h j (by omega) (by simpa using hm)).mono fun e w' ⟨he, hs, hf⟩ => ⟨⟨_, he⟩, hs, hf⟩
theorem rem_z (w : World) {S g cap n : Nat} {m : Nat → Bool} (h : SetAt w S g cap n m) (z : Int) (a : Addr) (hE : ErrAt w 0 a) :
    Calls Tryd.prog 15 #[.pointer (some ⟨S, 0, none⟩), .int .i64 z] w fun e w' => (∃ v, e = .returned v) ∧ SetAt w' S g cap n (remI m z) ∧ Foot w w' (fun k => k = S ∨ k = g) := by
  by_cases hz : z < 0 ∨ n ≤ z
  · rw [remI_out h.off hz]
    exact (rem_out w h z hz a hE).mono fun e w' ⟨he, q, hq⟩ => ⟨⟨_, he⟩, by rw [hq]; exact h.keep (below_drewN (Below.refl _ _) q), by rw [hq]; exact (Foot.refl w _).drewN q⟩
  · obtain ⟨j, rfl⟩ := Int.eq_ofNat_of_zero_le (show 0 ≤ z by omega)
    rw [remI_in]
    by_cases hm : m j = true
    · exact (rem_new w h j (by omega) hm).mono fun e w' ⟨he, hs, hf⟩ => ⟨⟨_, he⟩, hs, hf⟩
    · rw [put_same (by simpa using hm)]
      exact (rem_old w h j (by omega) (by simpa using hm)).mono fun e w' ⟨he, hw⟩ => by subst hw; exact ⟨⟨_, he⟩, h, Foot.refl w _⟩
/-- the set over the three loops -/
def c1F (n : Nat) (gs : List Int) (i : Nat) : Nat → Bool := fun k => decide (k < n) && decide ((k : Int) ∈ gs.take i)
def c2F (n : Nat) (gs zs : List Int) (j : Nat) : Nat → Bool := fun k => (decide (k < n) && decide ((k : Int) ∈ gs)) || decide ((k : Int) ∈ zs.drop j)
def c3F (n : Nat) (gs zs : List Int) (i : Nat) : Nat → Bool := fun k => ((decide (k < n) && decide ((k : Int) ∈ gs)) || decide ((k : Int) ∈ zs)) && !(decide ((k : Int) ∈ gs.take i) && !decide ((k : Int) ∈ zs))
theorem c1_zero (n : Nat) (gs : List Int) : c1F n gs 0 = fun _ => false := by funext k; simp [c1F]
theorem take_snoc {gs : List Int} {i : Nat} {z : Int} (h : gs[i]? = some z) : gs.take (i + 1) = gs.take i ++ [z] := by rw [List.take_add_one, h]; rfl
theorem c1_step {n : Nat} {gs : List Int} {i : Nat} {z : Int} (h : gs[i]? = some z) : addI n (c1F n gs i) z = c1F n gs (i + 1) := by
  funext k
  unfold addI c1F
  rw [take_snoc h]
  simp only [List.mem_append, List.mem_singleton]
  by_cases a : k < n <;> by_cases b : (k : Int) ∈ gs.take i <;> by_cases c : (k : Int) = z <;> simp [a, b, c]
theorem c1_all (n : Nat) (gs zs : List Int) : c1F n gs gs.length = c2F n gs zs zs.length := by
  funext k
  unfold c1F c2F
  rw [List.take_length, List.drop_length]
  simp
theorem c2_step {n : Nat} {gs zs : List Int} {j : Nat} {z : Int} (h : zs[j]? = some z) (hz : 0 ≤ z ∧ z < n) : addI n (c2F n gs zs (j + 1)) z = c2F n gs zs j := by
  funext k
  unfold addI c2F
  have hd : zs.drop j = z :: zs.drop (j + 1) := by
    obtain ⟨hj, he⟩ := List.getElem?_eq_some_iff.1 h
    rw [List.drop_eq_getElem_cons hj, he]
  rw [hd]
  simp only [List.mem_cons]
  by_cases c : (k : Int) = z
  · have a : k < n := by omega
    simp [a, c]
  · simp [c]
theorem c2_all (n : Nat) (gs zs : List Int) : c2F n gs zs 0 = c3F n gs zs 0 := by
  funext k
  unfold c2F c3F
  simp
theorem c3_keep {n : Nat} {gs zs : List Int} {i : Nat} {z : Int} (h : gs[i]? = some z) (hz : z ∈ zs) : c3F n gs zs (i + 1) = c3F n gs zs i := by
  funext k
  unfold c3F
  rw [take_snoc h]
  simp only [List.mem_append, List.mem_singleton]
  by_cases c : (k : Int) = z
  · simp [c, hz]
  · simp [c]
theorem c3_step {n : Nat} {gs zs : List Int} {i : Nat} {z : Int} (h : gs[i]? = some z) (hz : z ∉ zs) : remI (c3F n gs zs i) z = c3F n gs zs (i + 1) := by
  funext k
  unfold remI c3F
  rw [take_snoc h]
  simp only [List.mem_append, List.mem_singleton]
  by_cases c : (k : Int) = z
  · simp [c, hz]
  · simp [c]
theorem c3_all (n : Nat) (gs zs : List Int) : c3F n gs zs gs.length = mOf zs := by
  funext k
  unfold c3F mOf
  rw [List.take_length]
  by_cases a : (k : Int) ∈ zs <;> by_cases b : (k : Int) ∈ gs <;> simp [a, b]
theorem uv_len3 {n : Nat} (h : n < 2097152) : (Uv.uv n).length ≤ 3 := by
  unfold Uv.uv
  by_cases h1 : n < 128
  · rw [Uv.uvf_small _ _ h1]; simp
  · rw [Uv.uvf_great _ _ (by omega)]
    by_cases h2 : n / 128 < 128
    · rw [Uv.uvf_small _ _ h2]; simp
    · rw [Uv.uvf_great _ _ (by omega), Uv.uvf_small _ _ (by omega)]; simp
theorem encS_short {n : Nat} {m : Nat → Bool} (hn : n ≤ 1048576) : (encS n m).length ≤ 3 + (n + 255) / 256 * 33 := by
  have h1 := uv_len3 (n := n) (by omega)
  have h2 := (body_len n m (nb n)).2
  unfold encS
  rw [List.length_append]
  unfold nb at *
  omega
theorem encS_is {n k : Nat} {m f : Nat → Bool} (hn : n ≤ 1048576) (hk : k ≤ 1048576) (h : encS n m = encS k f) (o1 : ∀ i, n ≤ i → m i = false) (o2 : ∀ i, k ≤ i → f i = false) : n = k ∧ m = f := by
  obtain ⟨rfl, _⟩ := uv_inj hn hk h
  refine ⟨rfl, ?_⟩
  funext i
  by_cases hi : i < n
  · exact encS_inj h i hi
  · rw [o1 i (by omega), o2 i (by omega)]
structure Two (w wr : World) (S g cap S2 g2 n : Nat) (m f : Nat → Bool) : Prop where
  s : SetAt wr S g cap n m
  t : SetAt wr S2 g2 (nw n) n f
  below : Below w.heap.size w wr
theorem Two.step {w wr w' : World} {S g cap S2 g2 n : Nat} {m f f' : Nat → Bool} (h : Two w wr S g cap S2 g2 n m f) (hs : SetAt w' S2 g2 (nw n) n f') (hf : Foot wr w' (fun k => k = S2 ∨ k = g2)) (a : S ≠ S2) (b : S ≠ g2) (c : g ≠ S2) (d : g ≠ g2) (h1 : w.heap.size ≤ S2) (h2 : w.heap.size ≤ g2) : Two w w' S g cap S2 g2 n m f' :=
  ⟨h.s.apart hf a b c d, hs, h.below.trans (hf.below (fun k hk => by rcases hk with rfl | rfl <;> assumption) h.below.size)⟩
set_option maxRecDepth 100000 in
set_option maxHeartbeats 8000000 in
theorem canon_walk (w : World) (T : DeBr w) (E : Nat → Addr) (hE : Errs w E allErrs) (hg : 25 ≤ w.heap.size) (n : Int) (ao1 : Option Addr) (k1 : Nat) (zs : List Int) (h1 : Ints w (.slice ao1 zs.length k1) zs) (hl1 : zs.length ≤ 1152921504606846976)
    (ao2 : Option Addr) (k2 : Nat) (gs : List Int) (h2 : Ints w (.slice ao2 gs.length k2) gs) (hl2 : gs.length ≤ 1152921504606846976) :
    Calls Tryd.prog 8 #[.int .i64 n, .slice ao1 zs.length k1, .slice ao2 gs.length k2] w fun e w' => e = .returned (.bool true) ∧ Below w.heap.size w w' := by
  have HT := hide T
  have HE := hide hE
  have H1 := hide h1
  have H2 := hide h2
  clear T hE h1 h2
  go_enter Tryd.func8, Tryd.ntmps8
  go_wp2_with fail
  refine (fixed_any w E HE.out HT.out hg).mono ?_
  rintro e w1 ⟨rfl, hb1⟩
  have HB1 := hide hb1
  have z1 := hb1.size
  have HZ1 := hide (ints_keep H1.out hb1)
  clear hb1
  go_wp2_with fail
  refine (of_any w1 n ao1 k1 zs HZ1.out hl1 (E 0) (err_below (HE.out.cell 0 (by decide)) HB1.out (by omega)) (by omega)).mono ?_
  rintro e w2 ⟨hof, hb2⟩
  have HB2 := hide (HB1.out.trans (hb2.mono z1))
  have z2 := HB2.out.size
  clear hb2 HZ1
  rcases hof with ⟨N, S, g, cap, rfl, hN, hin, rfl, hS, hgg, hs⟩ | ⟨hno, rfl⟩
  · have HS := hide hs
    have HIN := hide hin
    have hSl := heap_lt hs.hd
    have hgl : g < w2.heap.size := by obtain ⟨cur, h, _⟩ := hs.ws; exact heap_lt h
    clear hs hin
    go_wp2_with fail
    refine (new_ok w2 N hN).mono ?_
    rintro e w3 ⟨S2, g2, rfl, hS2, hg2, ht, hb3⟩
    have HTW := hide (show Two w w3 S g cap S2 g2 N (mOf zs) (c1F N gs 0) from ⟨HS.out.keep hb3, by rw [c1_zero]; exact ht, HB2.out.trans (hb3.mono z2)⟩)
    have q1 : S ≠ S2 := by omega
    have q2 : S ≠ g2 := by omega
    have q3 : g ≠ S2 := by omega
    have q4 : g ≠ g2 := by omega
    have q5 : w.heap.size ≤ S2 := by omega
    have q6 : w.heap.size ≤ g2 := by omega
    clear ht hb3 HS HB2 HB1
    go_wp2_with fail
    go_loopw [45] (fun j wr => ∃ i : Nat, j = .int .i64 (i : Nat) ∧ i ≤ gs.length ∧ Two w wr S g cap S2 g2 N (mOf zs) (c1F N gs i)) (fun j _ => gs.length - (intOf j).toNat)
    case atStart => exact ⟨0, rfl, Nat.zero_le _, HTW.out⟩
    case round =>
      obtain ⟨i, rfl, hi, htw⟩ := hrel
      have HTr := hide htw
      clear htw HTW
      by_cases hlt : i < gs.length
      · obtain ⟨z, hz⟩ : ∃ z, gs[i]? = some z := ⟨_, List.getElem?_eq_getElem hlt⟩
        obtain ⟨ad, rfl, hcz⟩ := ints_get (ints_keep H2.out HTr.out.below) hz
        have hii : (i : Int) < (gs.length : Int) := by omega
        have HAD := hide (add_z wr HTr.out.t z (E 0) (err_below (HE.out.cell 0 (by decide)) HTr.out.below (by omega)))
        rw [c1_step hz] at HAD
        clear hz
        go_wp2_with fail
        refine HAD.out.mono ?_
        rintro e w4 ⟨⟨v4, rfl⟩, hs4, hf4⟩
        have HT4 := hide (HTr.out.step hs4 hf4 q1 q2 q3 q4 q5 q6)
        clear hs4 hf4
        go_wp2_with fail
        exact ⟨⟨i + 1, vi (by omega), by omega, HT4.out⟩, by simp only [intOf]; omega⟩
      · obtain rfl : i = gs.length := by omega
        have HT2 := hide (show Two w wr S g cap S2 g2 N (mOf zs) (c2F N gs zs zs.length) from by rw [← c1_all]; exact HTr.out)
        have hwl : IntKind.i64.wrap ((zs.length : Int) - 1) = (zs.length : Int) - 1 := by rw [IntKind.wrap_i64]; omega
        clear HTr
        go_wp2_with fail
        go_loopw [12] (fun k wr => ∃ j : Nat, k = .int .i64 ((j : Int) - 1) ∧ j ≤ zs.length ∧ Two w wr S g cap S2 g2 N (mOf zs) (c2F N gs zs j)) (fun k _ => (intOf k + 1).toNat)
        case atStart => exact ⟨zs.length, rfl, Nat.le_refl _, HT2.out⟩
        case round =>
          clear HT2
          obtain ⟨j, rfl, hj, htw⟩ := hrel
          have HTr := hide htw
          clear htw
          by_cases hj0 : 0 < j
          · obtain ⟨k, hk⟩ : ∃ k, j - 1 = k := ⟨_, rfl⟩
            have hkj : (j : Int) - 1 = (k : Int) := by omega
            rw [hkj]
            have hklt : k < zs.length := by omega
            have hki : (k : Int) < (zs.length : Int) := by omega
            have hjk : j = k + 1 := by omega
            rw [hjk] at HTr
            obtain ⟨z, hz⟩ : ∃ z, zs[k]? = some z := ⟨_, List.getElem?_eq_getElem hklt⟩
            obtain ⟨ad, rfl, hcz⟩ := ints_get (ints_keep H1.out HTr.out.below) hz
            have HAD := hide (add_z wr HTr.out.t z (E 0) (err_below (HE.out.cell 0 (by decide)) HTr.out.below (by omega)))
            rw [c2_step hz (HIN.out z (List.mem_of_getElem? hz))] at HAD
            have hwk : IntKind.i64.wrap ((k : Int) - 1) = (k : Int) - 1 := by rw [IntKind.wrap_i64]; omega
            clear hz hk hkj hjk
            go_wp2_with fail
            refine HAD.out.mono ?_
            rintro e w4 ⟨⟨v4, rfl⟩, hs4, hf4⟩
            have HT4 := hide (HTr.out.step hs4 hf4 q1 q2 q3 q4 q5 q6)
            clear hs4 hf4
            go_wp2_with fail
            exact ⟨⟨k, rfl, by omega, HT4.out⟩, by simp only [intOf]; omega⟩
          · obtain rfl : j = 0 := by omega
            rw [show (((0 : Nat) : Int) - 1) = -1 from rfl]
            have HT3 := hide (show Two w wr S g cap S2 g2 N (mOf zs) (c3F N gs zs 0) from by rw [← c2_all]; exact HTr.out)
            clear HTr
            go_wp2_with fail
            go_loopw [68] (fun k wr => ∃ i : Nat, k = .int .i64 (i : Nat) ∧ i ≤ gs.length ∧ Two w wr S g cap S2 g2 N (mOf zs) (c3F N gs zs i)) (fun k _ => gs.length - (intOf k).toNat)
            case atStart => exact ⟨0, rfl, Nat.zero_le _, HT3.out⟩
            case round =>
              clear HT3
              obtain ⟨i, rfl, hi, htw⟩ := hrel
              have HTr := hide htw
              clear htw
              by_cases hlt : i < gs.length
              · obtain ⟨z, hz⟩ : ∃ z, gs[i]? = some z := ⟨_, List.getElem?_eq_getElem hlt⟩
                obtain ⟨ad, rfl, hcz⟩ := ints_get (ints_keep H2.out HTr.out.below) hz
                have hii : (i : Int) < (gs.length : Int) := by omega
                have HCO := hide (contains_any wr ao1 zs.length k1 zs z (ints_keep H1.out HTr.out.below) rfl hl1)
                by_cases hzz : z ∈ zs
                · rw [decide_eq_true hzz] at HCO
                  have HT4 := hide (show Two w wr S g cap S2 g2 N (mOf zs) (c3F N gs zs (i + 1)) from by rw [c3_keep hz hzz]; exact HTr.out)
                  clear hz hzz
                  go_wp2_with fail
                  refine HCO.out.mono ?_
                  rintro e wz ⟨rfl, rfl⟩
                  go_wp2_with fail
                  exact ⟨⟨i + 1, vi (by omega), by omega, HT4.out⟩, by simp only [intOf]; omega⟩
                · rw [decide_eq_false hzz] at HCO
                  have HAD := hide (rem_z wr HTr.out.t z (E 0) (err_below (HE.out.cell 0 (by decide)) HTr.out.below (by omega)))
                  rw [c3_step hz hzz] at HAD
                  clear hz hzz
                  go_wp2_with fail
                  refine HCO.out.mono ?_
                  rintro e wz ⟨rfl, rfl⟩
                  go_wp2_with fail
                  refine HAD.out.mono ?_
                  rintro e w4 ⟨⟨v4, rfl⟩, hs4, hf4⟩
                  have HT4 := hide (HTr.out.step hs4 hf4 q1 q2 q3 q4 q5 q6)
                  clear hs4 hf4
                  go_wp2_with fail
                  exact ⟨⟨i + 1, vi (by omega), by omega, HT4.out⟩, by simp only [intOf]; omega⟩
              · obtain rfl : i = gs.length := by omega
                have HTF := hide (show Two w wr S g cap S2 g2 N (mOf zs) (mOf zs) from by have := HTr.out; rwa [c3_all] at this)
                have zr := HTF.out.below.size
                obtain ⟨m, hm⟩ : ∃ m, mOf zs = m := ⟨_, rfl⟩
                rw [hm] at HTF
                clear HTr hm
                go_wp2_with fail
                refine (alike_same wr HTF.out.s HTF.out.t).mono ?_
                rintro e w5 ⟨rfl, hb5⟩
                have HT5 := hide (show Two w w5 S g cap S2 g2 N m m from ⟨HTF.out.s.keep hb5, HTF.out.t.keep hb5, HTF.out.below.trans (hb5.mono zr)⟩)
                have z5 := HT5.out.below.size
                clear hb5 HTF
                go_wp2_with fail
                refine (encode_set w5 HT5.out.t).mono ?_
                rintro e w6 ⟨q7, _, rfl, hh6, hb6⟩
                have HT6 := hide (show Two w w6 S g cap S2 g2 N m m from ⟨HT5.out.s.keep hb6, HT5.out.t.keep hb6, HT5.out.below.trans (hb6.mono z5)⟩)
                have HQ6 := hide (src_encS hN hh6)
                have z6 := HT6.out.below.size
                have hel := encS_len (m := m) hN
                have HE6 := hide (HE.out.below HT6.out.below (Nat.le_refl _) (ids_lt hg))
                clear hh6 hb6 HT5
                have HDC := hide (decode_any w6 _ _ HQ6.out (by omega) E HE6.out (by omega))
                go_wp2_with fail
                refine HDC.out.mono ?_
                rintro e w7 ⟨hd, hb7⟩
                have HT7 := hide (show Two w w7 S g cap S2 g2 N m m from ⟨HT6.out.s.keep hb7, HT6.out.t.keep hb7, HT6.out.below.trans (hb7.mono z6)⟩)
                have z7 := HT7.out.below.size
                clear hb7
                unfold DecOut at hd
                rcases hd with ⟨n', m', S3, g3, hn', he, rfl, hS3, hg3, hs3⟩ | ⟨hno, rfl⟩
                · obtain ⟨rfl, rfl⟩ := encS_is hN hn' he HT6.out.s.off hs3.off
                  have HU := hide hs3
                  clear hs3 he HT6 HQ6 HDC
                  go_wp2_with fail
                  refine (alike_same w7 HU.out HT7.out.s).mono ?_
                  rintro e w8 ⟨rfl, hb8⟩
                  have HT8 := hide (show Two w w8 S g cap S2 g2 N m m from ⟨HT7.out.s.keep hb8, HT7.out.t.keep hb8, HT7.out.below.trans (hb8.mono z7)⟩)
                  have z8 := HT8.out.below.size
                  clear hb8 HT7
                  go_wp2_with fail
                  refine (encode_set w8 HT8.out.s).mono ?_
                  rintro e w9 ⟨q8, _, rfl, hh9, hb9⟩
                  have HB9 := hide (HT8.out.below.trans (hb9.mono z8))
                  have hsh := encS_short (m := m) hN
                  have hshi : ((encS N m).length : Int) ≤ 3 + ((N : Int) + 255) / 256 * 33 := by omega
                  obtain ⟨el, hel2⟩ : ∃ el, (encS N m).length = el := ⟨_, rfl⟩
                  rw [hel2] at hshi hel hsh ⊢
                  clear hh9 hb9 hel2
                  go_wp2_with fail
                  go_ret
                  exact ⟨rfl, HB9.out⟩
                · exact (hno N m hN rfl).elim
  · clear hno
    go_wp2_with fail
    go_ret
    exact ⟨rfl, HB2.out⟩
end Go.Proofs.YtmkbbekeimnajaaDoor

/-! Flp: flip (72) -/
namespace Go.Proofs.YtmkbbekeimnajaaDoor
open Go.RowKit Ds
/-- the first k numbers changed about -/
def flipM (n : Nat) (m : Nat → Bool) (k : Nat) : Nat → Bool := fun i => if i < k ∧ i < n then !m i else m i
theorem flip_zero (n : Nat) (m : Nat → Bool) : flipM n m 0 = m := by
  funext i
  unfold flipM
  rw [if_neg (by omega)]
theorem flip_succ {n k : Nat} (m : Nat → Bool) (hk : k < n) : flipM n m (k + 1) = put (flipM n m k) k (!m k) := by
  funext i
  unfold flipM put
  by_cases e : i = k
  · subst e
    rw [if_pos (by omega), if_pos rfl]
  · rw [if_neg e]
    dsimp only
    by_cases h : i < k ∧ i < n
    · rw [if_pos (by omega), if_pos h]
    · rw [if_neg (by omega), if_neg h]
theorem flip_far {n k : Nat} (m : Nat → Bool) (hk : n ≤ k) : flipM n m (k + 1) = flipM n m k := by
  funext i
  unfold flipM
  by_cases h : i < k ∧ i < n
  · rw [if_pos (by omega), if_pos h]
  · rw [if_neg (by omega), if_neg h]
theorem flip_at {n k : Nat} (m : Nat → Bool) : flipM n m k k = m k := by
  unfold flipM
  rw [if_neg (by omega)]
theorem flip_flip (n : Nat) (m : Nat → Bool) (k : Nat) : flipM n (flipM n m k) k = m := by
  funext i
  unfold flipM
  by_cases h : i < k ∧ i < n
  · rw [if_pos h, if_pos h, Bool.not_not]
  · rw [if_neg h, if_neg h]
theorem foot_comp {w w' w2 : World} {S : Nat → Prop} (h : Foot w w' S) (k : Foot w' w2 S) : Foot w w2 S :=
  ⟨k.os.trans h.os, k.tape.trans h.tape, k.output.trans h.output, Nat.le_trans h.size k.size, fun i hi hs => (k.block i (Nat.lt_of_lt_of_le hi h.size) hs).trans (h.block i hi hs)⟩
set_option maxRecDepth 100000 in
set_option maxHeartbeats 2000000 in
theorem flip_any (w : World) {S g cap n : Nat} {m : Nat → Bool} (h : SetAt w S g cap n m) (B : Nat) (hB : 0 < B) (hS : B ≤ S) (hg : B ≤ g) (hBw : B ≤ w.heap.size) (a : Addr) (hE : ErrAt w 0 a) :
    Calls Tryd.prog 72 #[.pointer (some ⟨S, 0, none⟩)] w fun e w' => (∃ v, e = .returned v) ∧ SetAt w' S g cap n (flipM n m 3) ∧ Foot w w' (fun k => k = S ∨ k = g) := by
  have HS := hide h
  have HE := hide hE
  clear h hE
  go_enter Tryd.func72, Tryd.ntmps72
  go_wp2_with fail
  go_loopw [2] (fun k wr => ∃ i : Nat, k = .int .i64 (i : Nat) ∧ i ≤ 3 ∧ SetAt wr S g cap n (flipM n m i) ∧ Foot w wr (fun k => k = S ∨ k = g)) (fun k _ => 3 - (intOf k).toNat)
  case atStart => exact ⟨0, rfl, by omega, by rw [flip_zero]; exact HS.out, Foot.refl _ _⟩
  case round =>
    obtain ⟨i, rfl, hi, hst, hf⟩ := hrel
    have HST := hide hst
    have HF := hide hf
    have hb := hf.below (B := B) (fun k hk => by rcases hk with rfl | rfl <;> assumption) hBw
    have HEr := hide (err_below HE.out hb hB)
    clear hst hf hb
    by_cases hlt : i < 3
    · have hii : (i : Int) < 3 := by omega
      by_cases hin : i < n
      · have HH := hide (has_in wr HST.out i hin)
        rw [flip_at] at HH
        cases hm : m i with
        | true =>
          rw [hm] at HH
          have HN := hide (show remI (flipM n m i) (i : Nat) = flipM n m (i + 1) from by rw [remI_in, flip_succ m hin, hm]; rfl)
          have HR := hide (rem_z wr HST.out (i : Nat) a HEr.out)
          rw [HN.out] at HR
          clear hm
          go_wp2_with fail
          refine HH.out.mono ?_
          rintro e wz ⟨rfl, rfl⟩
          go_wp2_with fail
          refine HR.out.mono ?_
          rintro e w2 ⟨⟨v, rfl⟩, hs2, hf2⟩
          have HS2 := hide hs2
          have HF2 := hide (foot_comp HF.out hf2)
          clear hs2 hf2
          go_wp2_with fail
          exact ⟨⟨i + 1, vi (by push_cast; omega), by omega, HS2.out, HF2.out⟩, by simp only [intOf]; omega⟩
        | false =>
          rw [hm] at HH
          have HN := hide (show addI n (flipM n m i) (i : Nat) = flipM n m (i + 1) from by rw [addI_in hin, flip_succ m hin, hm]; rfl)
          have HR := hide (add_z wr HST.out (i : Nat) a HEr.out)
          rw [HN.out] at HR
          clear hm
          go_wp2_with fail
          refine HH.out.mono ?_
          rintro e wz ⟨rfl, rfl⟩
          go_wp2_with fail
          refine HR.out.mono ?_
          rintro e w2 ⟨⟨v, rfl⟩, hs2, hf2⟩
          have HS2 := hide hs2
          have HF2 := hide (foot_comp HF.out hf2)
          clear hs2 hf2
          go_wp2_with fail
          exact ⟨⟨i + 1, vi (by push_cast; omega), by omega, HS2.out, HF2.out⟩, by simp only [intOf]; omega⟩
      · have HH := hide (has_out wr HST.out (i : Nat) (.inr (by omega)))
        have HN := hide (show addI n (flipM n m i) (i : Nat) = flipM n m (i + 1) from by rw [addI_out (.inr (by omega)), flip_far m (by omega)])
        have HR := hide (add_z wr HST.out (i : Nat) a HEr.out)
        rw [HN.out] at HR
        go_wp2_with fail
        refine HH.out.mono ?_
        rintro e wz ⟨rfl, rfl⟩
        go_wp2_with fail
        refine HR.out.mono ?_
        rintro e w2 ⟨⟨v, rfl⟩, hs2, hf2⟩
        have HS2 := hide hs2
        have HF2 := hide (foot_comp HF.out hf2)
        clear hs2 hf2
        go_wp2_with fail
        exact ⟨⟨i + 1, vi (by push_cast; omega), by omega, HS2.out, HF2.out⟩, by simp only [intOf]; omega⟩
    · obtain rfl : i = 3 := by omega
      go_wp2_with fail
      go_end0
      exact ⟨⟨_, rfl⟩, HST.out, HF.out⟩
end Go.Proofs.YtmkbbekeimnajaaDoor

/-! Gr: rows that grow by an element: in place, or in the block made now; the row that they began as stays -/
namespace Go.Proofs.YtmkbbekeimnajaaDoor
open Go.RowKit Ds
theorem below_undrew' {w w' : World} {B : Nat} (h : Below B w.drew w') : Below B w w' := ⟨h.os, h.tape, h.output, h.size, h.block⟩
theorem below_new (w : World) (o : Obj) : Below w.heap.size w (w.drew.alloc o) := below_undrew' ((Below.refl w.drew.heap.size w.drew).alloc (Nat.le_refl _) o)
/-- grown by one element: in its place, or in the block that is made now -/
def Grown (w : World) (B : Nat) (e : TypeId) (sz : Nat) (v : Value) (n : Nat) (xs news : List Value) (g cap : Nat) (w' : World) : Prop :=
  w'.ownsRow B e sz (.slice (some ⟨g, 0, none⟩) (n + 1) cap) (n + 1) (xs ++ news) ∧
    ((v = .slice (some ⟨g, 0, none⟩) n cap ∧ w.grownBy w' (some g)) ∨ (g = w.heap.size ∧ Below w.heap.size w w'))
set_option maxRecDepth 100000 in
theorem run_grow (w : World) (B : Nat) (t ty e : TypeId) (i0 : TypeInfo) (z : Value) (sz bytes : Nat) (ht : Tryd.prog.underlying t = some (.slice e)) (hi : Tryd.prog.info? e = some i0) (hz0 : i0.zero = some z)
    (hz1 : i0.size = sz) (hz2 : i0.bytes = bytes) (hzs : z.cells.size = sz) (hsz : 0 < sz) (hb16 : bytes ≤ 32) (v : Value) (n : Nat) (xs : List Value) (hown : w.ownsRow B e sz v n xs) (ad : Addr) (c : Nat) (news : List Value) (hnl : news.length = sz)
    (hnews : ∀ j u, news[j]? = some u → w.cell? (ad.add j) = some u) (hone : ∀ u ∈ news, u.oneCell' = true) (hl : n + 1 ≤ 4398046511104) (hB : B ≤ w.heap.size) :
    ∃ g cap w', (Builtin.append_ #[t, t] ty #[v, .slice (some ad) 1 c]).run Tryd.prog w = .ok (.slice (some ⟨g, 0, none⟩) (n + 1) cap) w' ∧ Grown w B e sz v n xs news g cap w' := by
  have hmul : (n + 1) * bytes ≤ 140737488355328 := by
    have h1 : (n + 1) * bytes ≤ 4398046511104 * 32 := Nat.mul_le_mul hl hb16
    omega
  obtain ⟨g, cap, w', hr, h2, h3, h4, h5⟩ := run_append_lies (P := Tryd.prog) w t ty B e i0 z sz bytes ht hi hz0 hz1 hz2 hzs hsz v n xs hown ad 1 c news (by rw [Nat.one_mul]; exact hnl) hnews hone (by decide) (by simp only [maxLen]; omega) hmul hB _ rfl
  refine ⟨g, cap, w', hr, h2, ?_⟩
  have mk : ∀ (v1 : Value) (w1 : World), (Builtin.append_ #[t, t] ty #[v, .slice (some ad) 1 c]).run Tryd.prog w = .ok v1 w1 → v1 = .slice (some ⟨g, 0, none⟩) (n + 1) cap ∧ w1 = w' := by
    intro v1 w1 h
    rw [hr] at h
    injection h with h1 h2
    exact ⟨h1.symm, h2.symm⟩
  rcases hown.2 with ⟨rfl, h0⟩ | ⟨g0, cap0, cur0, rfl, hb, hh, hn, hm, hs, htk⟩
  · have hb1 : 1 * i0.bytes ≤ 281474976710656 := by rw [hz2, Nat.one_mul]; omega
    obtain ⟨e1, e2⟩ := mk _ _ (run_append_nil (P := Tryd.prog) w t ty e i0 z ht hi hz0 ad 1 c news (by rw [hz1, Nat.one_mul]; exact hnl) hnews (by decide) (by decide) hb1)
    simp only [Value.slice.injEq, Option.some.injEq, Addr.mk.injEq] at e1
    exact .inr ⟨e1.1.1.symm, e2 ▸ below_new w _⟩
  · by_cases hroom : n + 1 ≤ cap0
    · have hfit : n * sz + sz ≤ cap0 * sz := by
        have := Nat.mul_le_mul_right sz hroom
        rw [Nat.add_mul, Nat.one_mul] at this
        exact this
      obtain ⟨e1, e2⟩ := mk _ _ (run_append_room (P := Tryd.prog) w t ty e i0 ht hi g0 n cap0 cur0 hh ad 1 c news (by rw [hz1, Nat.one_mul]; exact hnl) hnews hone hroom (by rw [hz1, hs, hnl]; exact hfit))
      simp only [Value.slice.injEq, Option.some.injEq, Addr.mk.injEq] at e1
      obtain ⟨⟨rfl, _⟩, _, rfl⟩ := e1
      exact .inl ⟨rfl, h3⟩
    · have holds : ∀ j u, xs[j]? = some u → w.cell? ((⟨g0, 0, none⟩ : Addr).add j) = some u := World.ownsRow.cells hown (g := g0) rfl
      obtain ⟨e1, e2⟩ := mk _ _ (run_append_grow (P := Tryd.prog) w t ty e i0 z ht hi hz0 ⟨g0, 0, none⟩ n cap0 xs (by rw [hz1]; exact hown.1) holds ad 1 c news (by rw [hz1, Nat.one_mul]; exact hnl) hnews (by omega) (by omega) (growslice_fits (by omega) (by rw [hz2]; exact hmul)))
      simp only [Value.slice.injEq, Option.some.injEq, Addr.mk.injEq] at e1
      exact .inr ⟨e1.1.1.symm, e2 ▸ below_new w _⟩
theorem Grown.by {w w' : World} {B g cap n sz : Nat} {e : TypeId} {v : Value} {xs news : List Value} (h : Grown w B e sz v n xs news g cap w') : w.grownBy w' v.ownBlock := by
  rcases h.2 with ⟨rfl, h1⟩ | ⟨_, h1⟩
  · exact h1
  · exact grown_of_below h1 |> fun k => ⟨h1.os, h1.tape, h1.output, h1.size, fun k hk _ => h1.block k hk⟩
theorem Grown.keepTy {w w' : World} {B g cap n sz : Nat} {e t : TypeId} {v : Value} {xs news : List Value} (h : Grown w B e sz v n xs news g cap w') (ho : w.ownsRow B e sz v n xs) (ht : e ≠ t) : KeepTy w w' t :=
  keepTy_grown h.by (notTy_row ho ht)
/-- the first row stays where another slice of it grows -/
structure Ap (w0 w : World) (B : Nat) (e : TypeId) (sz : Nat) (V : Value) (n : Nat) (C : List Value) (a : Value) (i : Nat) : Prop where
  tail : ∃ tl, w.ownsRow B e sz a (n + i) (C ++ tl)
  orig : w.ownsRow B e sz V n C
  link : (∃ g cap, V = .slice (some ⟨g, 0, none⟩) n cap ∧ a = .slice (some ⟨g, 0, none⟩) (n + i) cap) ∨ (∀ g, a.ownBlock = some g → V.ownBlock ≠ some g ∧ w0.heap.size ≤ g)
theorem Ap.start {w0 w : World} {B sz n : Nat} {e : TypeId} {V : Value} {C : List Value} (h : w.ownsRow B e sz V n C) : Ap w0 w B e sz V n C V 0 := by
  refine ⟨⟨[], by rw [List.append_nil]; exact h⟩, h, ?_⟩
  rcases h.2 with ⟨rfl, _⟩ | ⟨g, cap, cur, rfl, _⟩
  · exact .inr (fun g hg => by cases hg)
  · exact .inl ⟨g, cap, rfl, rfl⟩
theorem Ap.keepTy {w0 w w' : World} {B sz n i : Nat} {e : TypeId} {V a : Value} {C : List Value} (h : Ap w0 w B e sz V n C a i) (hk : KeepTy w w' e) : Ap w0 w' B e sz V n C a i := by
  obtain ⟨tl, ht⟩ := h.tail
  exact ⟨⟨tl, row_keepTy ht hk⟩, row_keepTy h.orig hk, h.link⟩
theorem row_trunc {w : World} {B sz n i g cap : Nat} {e : TypeId} {C tl : List Value} (h : w.ownsRow B e sz (.slice (some ⟨g, 0, none⟩) (n + i) cap) (n + i) (C ++ tl)) (hC : C.length = n * sz) : w.ownsRow B e sz (.slice (some ⟨g, 0, none⟩) n cap) n C := by
  refine ⟨hC, ?_⟩
  rcases h.2 with ⟨h, _⟩ | ⟨g', cap', cur, hv, hb, hh, hn, hmx, hs, ht⟩
  · cases h
  · simp only [Value.slice.injEq, Option.some.injEq, Addr.mk.injEq] at hv
    obtain ⟨⟨rfl, _⟩, _, rfl⟩ := hv
    refine .inr ⟨g, cap, cur, rfl, hb, hh, by omega, hmx, hs, ?_⟩
    have h1 : cur.toList.take (n * sz) = (cur.toList.take ((n + i) * sz)).take (n * sz) := by
      rw [List.take_take, Nat.min_eq_left (Nat.mul_le_mul_right _ (by omega))]
    rw [h1, ht, ← hC, List.take_left]
theorem Ap.grow {w0 w w' : World} {B sz n i g cap : Nat} {e : TypeId} {V a : Value} {C news tl : List Value} (h : Ap w0 w B e sz V n C a i) (hg : Grown w B e sz a (n + i) (C ++ tl) news g cap w') (hs : w0.heap.size ≤ w.heap.size) :
    Ap w0 w' B e sz V n C (.slice (some ⟨g, 0, none⟩) (n + (i + 1)) cap) (i + 1) := by
  have hO := hg.1
  rw [Nat.add_assoc] at hO
  have hOr := h.orig
  refine ⟨⟨tl ++ news, by rw [← List.append_assoc]; exact hO⟩, ?_, ?_⟩
  · rcases hg.2 with ⟨rfl, h1⟩ | ⟨rfl, h1⟩
    · rcases h.link with ⟨g1, cap1, rfl, h2⟩ | h2
      · simp only [Value.slice.injEq, Option.some.injEq, Addr.mk.injEq] at h2
        obtain ⟨⟨rfl, _⟩, _, rfl⟩ := h2
        rw [List.append_assoc] at hO
        exact row_trunc hO hOr.1
      · refine World.ownsRow.kept hOr h1 ?_
        exact .inr (h2 g rfl).1
    · exact World.ownsRow.kept (row := none) hOr ⟨h1.os, h1.tape, h1.output, h1.size, fun k hk _ => h1.block k hk⟩ (by cases hv : V.ownBlock <;> simp)
  · rcases hg.2 with ⟨rfl, h1⟩ | ⟨rfl, h1⟩
    · rcases h.link with ⟨g1, cap1, rfl, h2⟩ | h2
      · simp only [Value.slice.injEq, Option.some.injEq, Addr.mk.injEq] at h2
        obtain ⟨⟨rfl, _⟩, _, rfl⟩ := h2
        exact .inl ⟨_, _, rfl, rfl⟩
      · exact .inr (fun k hk => h2 k hk)
    · refine .inr (fun k hk => ?_)
      simp only [Value.ownBlock, Option.some.injEq] at hk
      subst hk
      refine ⟨fun e => ?_, hs⟩
      have := (World.ownsRow.lt hOr _ e).2
      omega
theorem Ap.foot {w0 w w' : World} {B sz n i g cap : Nat} {e : TypeId} {V a : Value} {C xs news : List Value} {S : Nat → Prop} (h : Ap w0 w B e sz V n C a i) (hg : Grown w B e sz a (n + i) xs news g cap w') (hf : Foot w0 w S) (hS : ∀ k, V.ownBlock = some k → S k) : Foot w0 w' S := by
  refine hf.grown hg.by (fun k hk => ?_)
  rcases h.link with ⟨g1, cap1, rfl, rfl⟩ | h2
  · exact .inl (hS k hk)
  · exact .inr (h2 k hk).2
end Go.Proofs.YtmkbbekeimnajaaDoor

/-! Tr: three rows of one kind, their headers in an array -/
namespace Go.Proofs.YtmkbbekeimnajaaDoor
open Go.RowKit Ds
structure Trip (B : Nat) (e : TypeId) (sz A : Nat) (ta : TypeId) (v : Value) (C0 : List Value) (V : Nat → Value) (n : Nat) (C : Nat → List Value) (K : Nat) (wr : World) : Prop where
  arr : wr.heap[A]? = some (.cells #[V 0, V 1, V 2] ta (0, 0))
  ref : wr.ownsRow B e sz v n C0
  row : ∀ k, k < K → wr.ownsRow B e sz (V k) n (C k)
  ap : ∀ j k, j < K → k < K → j ≠ k → ∀ q, (V j).ownBlock = some q → (V k).ownBlock ≠ some q
  apr : ∀ k, k < K → ∀ q, (V k).ownBlock = some q → v.ownBlock ≠ some q
section
variable {B sz A n K : Nat} {e ta : TypeId} {v : Value} {C0 : List Value} {V : Nat → Value} {C : Nat → List Value} {wr w' : World}
theorem Trip.keepTy (h : Trip B e sz A ta v C0 V n C K wr) (h1 : KeepTy wr w' e) (h2 : KeepTy wr w' ta) : Trip B e sz A ta v C0 V n C K w' :=
  ⟨h2 _ _ _ h.arr, row_keepTy h.ref h1, fun k hk => row_keepTy (h.row k hk) h1, h.ap, h.apr⟩
theorem Trip.keep (h : Trip B e sz A ta v C0 V n C K wr) (hb : Below wr.heap.size wr w') : Trip B e sz A ta v C0 V n C K w' := h.keepTy (keepTy_below hb _) (keepTy_below hb _)
theorem Trip.far (h : Trip B e sz A ta v C0 V n C K wr) {p i : Nat} {cs : Array Value} {t0 : TypeId} {fr : Nat × Nat} (hp : wr.heap[p]? = some (.cells cs t0 fr)) (h1 : t0 ≠ e) (h2 : t0 ≠ ta) (x : Value) : Trip B e sz A ta v C0 V n C K (wr.setCell ⟨p, i, none⟩ x) :=
  h.keepTy (keepTy_at hp h1 x) (keepTy_at hp h2 x)
theorem row_base {w : World} {B B' n : Nat} {v : Value} {xs : List Value} (h : w.ownsRow B' e sz v n xs) (hB : B ≤ B') : w.ownsRow B e sz v n xs := by
  refine ⟨h.1, ?_⟩
  rcases h.2 with h1 | ⟨g, cap, cur, h1, h2, h3⟩
  · exact .inl h1
  · exact .inr ⟨g, cap, cur, h1, Nat.le_trans hB h2, h3⟩
/-- one more row -/
theorem Trip.add {w3 : World} {nv : Value} {CC : List Value} {B' : Nat} (h : Trip B e sz A ta v C0 V n C K wr) (h3 : Trip B e sz A ta v C0 V n C K w3) (hK : K < 3) (hr : w3.ownsRow B' e sz nv n CC) (hB : B ≤ B') (hB' : wr.heap.size ≤ B') (hne : ta ≠ e) :
    Trip B e sz A ta v C0 (fun j => if j = K then nv else V j) n (fun j => if j = K then CC else C j) (K + 1) (w3.setCell ⟨A, K, none⟩ nv) := by
  have hk := keepTy_at (i := K) h3.arr hne nv
  have hlt : ∀ k, k < K → ∀ q, (V k).ownBlock = some q → q < wr.heap.size := fun k hk q hq => (World.ownsRow.lt (h.row k hk) q hq).2
  have hge : ∀ q, nv.ownBlock = some q → wr.heap.size ≤ q := fun q hq => Nat.le_trans hB' (World.ownsRow.lt hr q hq).1
  have hv : ∀ q, v.ownBlock = some q → q < wr.heap.size := fun q hq => (World.ownsRow.lt h.ref q hq).2
  refine ⟨?_, row_keepTy h3.ref hk, fun k hkK => ?_, fun j k hj hkK hjk q hq => ?_, fun k hkK q hq => ?_⟩
  · rw [heap_set h3.arr]
    obtain rfl | rfl | rfl : K = 0 ∨ K = 1 ∨ K = 2 := by omega
    · rfl
    · rfl
    · rfl
  · by_cases e1 : k = K
    · simp only [e1, if_true]
      exact row_keepTy (row_base hr hB) hk
    · simp only [if_neg e1]
      exact row_keepTy (h3.row k (by omega)) hk
  · by_cases e1 : j = K
    · simp only [e1, if_true] at hq
      simp only [if_neg (show k ≠ K by omega)]
      intro e2
      have := hge q hq
      have := hlt k (by omega) q e2
      omega
    · simp only [if_neg e1] at hq
      by_cases e2 : k = K
      · simp only [e2, if_true]
        intro e3
        have := hge q e3
        have := hlt j (by omega) q hq
        omega
      · simp only [if_neg e2]
        exact h.ap j k (by omega) (by omega) hjk q hq
  · by_cases e1 : k = K
    · simp only [e1, if_true] at hq
      intro e2
      have := hge q hq
      have := hv q e2
      omega
    · simp only [if_neg e1] at hq
      exact h.apr k (by omega) q hq
/-- a cell of a row is written -/
theorem Trip.put {k g c : Nat} (h : Trip B e sz A ta v C0 V n C K wr) (hk : k < K) (hV : V k = .slice (some ⟨g, 0, none⟩) n c) (hne : ta ≠ e) (j : Nat) (x : Value) :
    Trip B e sz A ta v C0 V n (fun i => if i = k then (C k).set j x else C i) K (wr.setCell ⟨g, j, none⟩ x) := by
  have hrow := h.row k hk
  rw [hV] at hrow
  have hg : ∃ cur : Array Value, wr.heap[g]? = some (.cells cur e (0, 0)) := by
    rcases hrow.2 with ⟨h0, _⟩ | ⟨g', c', cur, hv, _, hh, _⟩
    · cases h0
    · simp only [Value.slice.injEq, Option.some.injEq, Addr.mk.injEq] at hv
      obtain ⟨⟨rfl, _⟩, _⟩ := hv
      exact ⟨cur, hh⟩
  obtain ⟨cur, hg⟩ := hg
  have hb : (V k).ownBlock = some g := by rw [hV]; rfl
  refine ⟨heap_else h.arr ?_ x, ownsRow_setCell_other h.ref (fun e1 => h.apr k hk g hb e1) _, fun i hi => ?_, h.ap, h.apr⟩
  · rintro rfl
    have := h.arr
    rw [hg] at this
    simp only [Option.some.injEq, Obj.cells.injEq] at this
    exact hne this.2.1.symm
  · by_cases e1 : i = k
    · simp only [e1, if_true]
      rw [hV]
      exact row_put hrow j x
    · simp only [if_neg e1]
      exact ownsRow_setCell_other (h.row i hi) (fun e2 => h.ap k i hk hi (fun e3 => e1 e3.symm) g hb e2) _
/-- behind what was done to row k's block alone -/
theorem Trip.foot {k : Nat} (h : Trip B e sz A ta v C0 V n C K wr) (hk : k < K) (hf : ∀ (q : Nat) (cs : Array Value) (t : TypeId) (fr : Nat × Nat), wr.heap[q]? = some (.cells cs t fr) → t = e ∨ t = ta → (V k).ownBlock ≠ some q → w'.heap[q]? = wr.heap[q]?)
    (ho : w'.ownsRow B e sz (V k) n (C k)) (hne : ta ≠ e) : Trip B e sz A ta v C0 V n C K w' := by
  have keep : ∀ (u : Value) (us : List Value), wr.ownsRow B e sz u n us → (∀ q, u.ownBlock = some q → (V k).ownBlock ≠ some q) → w'.ownsRow B e sz u n us := by
    intro u us hu hq
    refine ⟨hu.1, ?_⟩
    rcases hu.2 with h1 | ⟨g, cap, cur, rfl, h2, h3, h4⟩
    · exact .inl h1
    · exact .inr ⟨g, cap, cur, rfl, h2, (hf g cur e _ h3 (.inl rfl) (hq g rfl)).trans h3, h4⟩
  refine ⟨(hf A _ ta _ h.arr (.inr rfl) ?_).trans h.arr, keep v C0 h.ref (fun q hq e1 => h.apr k hk q e1 hq), fun i hi => ?_, h.ap, h.apr⟩
  · intro e1
    rcases (h.row k hk).2 with ⟨h0, _⟩ | ⟨g, cap, cur, h1, _, h3, _⟩
    · rw [h0] at e1; cases e1
    · rw [h1] at e1
      simp only [Value.ownBlock, Option.some.injEq] at e1
      subst e1
      have := h.arr
      rw [h3] at this
      simp only [Option.some.injEq, Obj.cells.injEq] at this
      exact hne this.2.1.symm
  · by_cases e1 : i = k
    · subst e1; exact ho
    · exact keep _ _ (h.row i hi) (fun q hq e2 => h.ap i k hi hk e1 q hq e2)
theorem Trip.hdr (h : Trip B e sz A ta v C0 V n C K wr) {k : Nat} (hk : k < 3) : wr.cell? ⟨A, k, none⟩ = some (V k) ∧ wr.frozen? ⟨A, k, none⟩ = false := by
  refine ⟨?_, free_at h.arr k⟩
  rw [cell_at h.arr]
  obtain rfl | rfl | rfl : k = 0 ∨ k = 1 ∨ k = 2 := by omega
  · rfl
  · rfl
  · rfl
/-- rows that are written over with a mark up to a place -/
def mk (x : Value) (j : Nat) (L : List Value) : List Value := List.replicate j x ++ L.drop j
theorem mk_zero (x : Value) (L : List Value) : mk x 0 L = L := by simp [mk]
theorem mk_len (x : Value) {j : Nat} {L : List Value} (h : j ≤ L.length) : (mk x j L).length = L.length := by simp [mk]; omega
theorem mk_set (x : Value) {j : Nat} {L : List Value} (h : j < L.length) : (mk x j L).set j x = mk x (j + 1) L := by
  unfold mk
  rw [List.set_append_right _ _ (by simp), List.length_replicate, Nat.sub_self, List.drop_eq_getElem_cons h, List.set_cons_zero, List.replicate_succ', List.append_assoc]
  rfl
theorem mk_get (x : Value) {i j : Nat} {L : List Value} (h : i < j) : (mk x j L)[i]? = some x := by
  unfold mk
  rw [List.getElem?_append_left (by simpa using h)]
  simp [h]
theorem mk_cell (x : Value) {i j : Nat} {L : List Value} (h : i < L.length) : ∃ y, (mk x j L)[i]? = some y := by
  by_cases h1 : i < j
  · exact ⟨x, mk_get x h1⟩
  · unfold mk
    rw [List.getElem?_append_right (by simp; omega), List.length_replicate, List.getElem?_drop]
    exact ⟨L[j + (i - j)]'(by omega), List.getElem?_eq_getElem _⟩
/-- the contents while row k is written over up to place j -/
def mkC (X : Nat → Value) (L : List Value) (k j : Nat) : Nat → List Value := fun i => if i < k then mk (X i) L.length L else if i = k then mk (X i) j L else L
theorem mkC_zero (X : Nat → Value) (L : List Value) : mkC X L 0 0 = fun _ => L := by
  funext i
  unfold mkC
  rw [if_neg (by omega), mk_zero]
  split <;> rfl
theorem mkC_next (X : Nat → Value) (L : List Value) (k : Nat) : mkC X L k L.length = mkC X L (k + 1) 0 := by
  funext i
  unfold mkC
  rw [mk_zero]
  by_cases h : i < k
  · rw [if_pos h, if_pos (by omega)]
  · rw [if_neg h]
    by_cases h1 : i = k
    · rw [if_pos h1, if_pos (by omega)]
    · rw [if_neg h1, if_neg (by omega)]
      split <;> rfl
theorem mkC_set (X : Nat → Value) (L : List Value) (k : Nat) {j : Nat} (h : j < L.length) : (fun i => if i = k then (mkC X L k j k).set j (X k) else mkC X L k j i) = mkC X L k (j + 1) := by
  funext i
  by_cases e : i = k
  · subst e
    rw [if_pos rfl]
    unfold mkC
    rw [if_neg (by omega), if_pos rfl, if_neg (by omega), if_pos rfl, mk_set _ h]
  · rw [if_neg e]
    unfold mkC
    by_cases h1 : i < k
    · rw [if_pos h1, if_pos h1]
    · rw [if_neg h1, if_neg h1, if_neg e, if_neg e]
theorem mkC_at (X : Nat → Value) (L : List Value) (k j : Nat) : mkC X L k j k = mk (X k) j L := by
  unfold mkC
  rw [if_neg (by omega), if_pos rfl]
theorem mkC_done (X : Nat → Value) (L : List Value) {k i : Nat} (h : i < k) : mkC X L k 0 i = mk (X i) L.length L := by
  unfold mkC
  rw [if_pos h]
end
end Go.Proofs.YtmkbbekeimnajaaDoor
