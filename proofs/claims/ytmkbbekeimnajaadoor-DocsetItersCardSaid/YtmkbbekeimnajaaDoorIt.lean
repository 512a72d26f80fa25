/- what the iterator of All tells -/
import Derived.Test.YtmkbbekeimnajaaDoorRf
import Derived.Test.YtmkbbekeimnajaaDoorMb
import Derived.Test.YtmkbbekeimnajaaDoorAl
import Derived.RangeFuncLeaves
import Derived.RangeFuncCalls
import Derived.Shelf.Abstract
import Derived.Shelf.RegionOpen
import Derived.OwnWalkIn
import Derived.TacticsInMore
import Derived.LoopNIn
import Derived.LoopIn
namespace Go.Proofs.YtmkbbekeimnajaaDoor
open Go.RowKit Ds
theorem set_same {S : Nat → Prop} {w w' : World} {A g cap n : Nat} {m : Nat → Bool} (h : SetAt w A g cap n m) (hs : Same S w w') (hA : S A) (hg : S g) : SetAt w' A g cap n m := by
  obtain ⟨cur, h1, h2, h3⟩ := h.ws
  exact ⟨hs.same _ _ hA h.hd, ⟨cur, hs.same _ _ hg h1, h2, h3⟩, h.cap, h.off, h.small⟩
theorem debr_same {S : Nat → Prop} {w w' : World} (h : DeBr w) (hs : Same S w w') (hS : S 15) : DeBr w' := fun j hj => same_cell hs hS (h j hj)
theorem wide_depth {n : Nat} : Fence.wide.depth.isSome = true → 1 ≤ n := fun h => by cases h
theorem mem_take {m : Nat → Bool} {n k x : Nat} (h : (Ds.mem m n)[k]? = some x) : (Ds.mem m n).take (k + 1) = (Ds.mem m n).take k ++ [x] := by
  rw [List.take_add_one, h]; rfl
def itEnc (x : Nat) : Array Value := #[.int .i64 (x : Nat)]
def itAt (ms : List Nat) (pre : List Nat) (_ : World) (x : Nat) (_ : World) : Prop := ms[pre.length]? = some x
set_option maxRecDepth 100000 in
set_option maxHeartbeats 4000000 in
theorem all_tells (S : Nat → Prop) (l0 c A g cap n : Nat) (m : Nat → Bool) (w : World) (hs : SetAt w A g cap n m) (hT : DeBr w) (hc : w.heap[c]? = some (.cells #[.pointer (some ⟨A, 0, none⟩)] 24 (0, 0)))
    (h15 : S 15) (hSc : S c) (hSA : S A) (hSg : S g) :
    TellsAt Fence.wide l0 Tryd.prog 43 #[.pointer (some ⟨c, 0, none⟩)] itEnc (itAt (Ds.mem m n)) (fun xs => xs = Ds.mem m n) (fun pre => ∃ k, k < cnt m n ∧ pre = (Ds.mem m n).take (k + 1)) S w := fun l J Jx W hW hJ hJx hY hst => by
  have hbW : Same S w W := same_below hW
  have hsm := hs.small
  have HS := hide hs
  have HT := hide hT
  have HC := hide hc
  have HY := hide hY
  have HJ := hide hJ
  have HBW := hide hbW
  have HST := hide hst
  clear hs hT hc hY hJ hbW hst hW
  refine callsIn_of_wp Tryd.func43 rfl trivial ?_ rfl
  simp only [Tryd.ntmps43, List.size_toArray, List.length_cons, List.length_nil, Nat.reduceAdd, Nat.reduceSub, Array.replicate_succ, Array.replicate_zero, List.push_toArray, List.append_toArray, List.nil_append, List.cons_append]
  have c0 := cell_of_one (HBW.out.same _ _ hSc HC.out)
  gi_wp2_with fail
  refine ⟨trivial, wide_depth, (callsIn_wide.2 (next_any W (set_same HS.out HBW.out hSA hSg) (debr_same HT.out HBW.out h15) 0)).mono ?_⟩
  rintro e W2 ⟨hno, rfl⟩
  obtain ⟨a, b, rfl, hat⟩ := next_at hno
  have HAT := hide (show AtK m n 0 a b from by simpa [cnt, Ds.mem] using hat)
  clear hno hat c0
  gi_wp2_with fail
  gi_loopw [3, 4] (fun a b wr => ∃ k, k ≤ cnt m n ∧ AtK m n k a b ∧ J ((Ds.mem m n).take k) wr ∧ Same S w wr) (fun a b _ => match b with | .bool true => cnt m n + 1 - cnt m ((intOf a).toNat + 1) | _ => 0)
  case atStart => exact ⟨0, Nat.zero_le _, HAT.out, HST.out, HBW.out⟩
  case round =>
    obtain ⟨k, hk, hat, hj, hb⟩ := hrel
    have HJr := hide hj
    have HB := hide hb
    have c0 := cell_of_one (HB.out.same _ _ hSc HC.out)
    clear hj hb HST HBW HAT
    unfold AtK at hat
    cases hx : (Ds.mem m n)[k]? with
    | none =>
      rw [hx] at hat
      obtain ⟨rfl, rfl⟩ := hat
      have hke : cnt m n ≤ k := List.getElem?_eq_none_iff.1 hx
      have hkk : k = cnt m n := by omega
      have HKK := hide hkk
      have HF := hide (show J (Ds.mem m n) wr from by
        have := HJr.out
        rw [HKK.out, List.take_of_length_le (by unfold cnt; exact Nat.le_refl _)] at this
        exact this)
      clear hx hkk hke
      gi_wp2_with fail
      go_end0
      exact ⟨⟨_, rfl⟩, .inl ⟨_, rfl, HF.out⟩⟩
    | some x =>
      rw [hx] at hat
      obtain ⟨rfl, rfl⟩ := hat
      obtain ⟨hxn, hc1, htk⟩ := mem_at hx
      have hkl : k < cnt m n := get_lt' hx
      obtain ⟨fn, tmps, assign, bdy, hy, hR⟩ := HY.out ((Ds.mem m n).take k) x wr wr HJr.out (Below.refl _ _) (by unfold itAt; rw [List.length_take, Nat.min_eq_left (by unfold cnt at hkl; omega)]; exact hx)
      have HRD := hide hR
      have HC1 := hide hc1
      have HX := hide (mem_take hx)
      dsimp only [itEnc] at hy
      clear hR hc1 hx htk
      gi_wp2_with fail
      refine ⟨wide_depth, HRD.out.mono ?_⟩
      rintro e W3 (⟨rfl, hJ3, hk3⟩ | ⟨rfl, hJx3⟩)
      · have HJ3 := hide (show J ((Ds.mem m n).take (k + 1)) W3 from by rw [HX.out]; exact hJ3)
        have HB3 := hide (HB.out.trans hk3)
        have c0 := cell_of_one (HB3.out.same _ _ hSc HC.out)
        have hwx : IntKind.i64.wrap ((x : Int) + 1) = (x : Int) + 1 := by rw [IntKind.wrap_i64]; omega
        clear hJ3 hk3 hy
        gi_wp2_with fail
        refine ⟨trivial, wide_depth, (callsIn_wide.2 (next_any W3 (set_same HS.out HB3.out hSA hSg) (debr_same HT.out HB3.out h15) ((x : Int) + 1))).mono ?_⟩
        rintro e W4 ⟨hno, rfl⟩
        obtain ⟨a, b, rfl, hat⟩ := next_at hno
        have HAT := hide (show AtK m n (k + 1) a b from by
          rw [show ((x : Int) + 1).toNat = x + 1 by omega, HC1.out] at hat
          exact hat)
        clear hno hat c0
        gi_wp2_with fail
        refine ⟨⟨k + 1, hkl, HAT.out, HJ3.out, HB3.out⟩, ?_⟩
        have h1 := HAT.out
        unfold AtK at h1
        simp only [intOf, Int.toNat_natCast, HC1.out]
        cases hx2 : (Ds.mem m n)[k + 1]? with
        | none =>
          rw [hx2] at h1
          obtain ⟨rfl, rfl⟩ := h1
          simp only []
          omega
        | some y =>
          rw [hx2] at h1
          obtain ⟨rfl, rfl⟩ := h1
          have := (mem_at hx2).2.1
          have h2 : k + 1 < cnt m n := get_lt' hx2
          simp only [Int.toNat_natCast, this]
          omega
      · have HJx3 := hide (show Jx ((Ds.mem m n).take (k + 1)) W3 from by rw [HX.out]; exact hJx3)
        clear hJx3 hy
        gi_wp2_with fail
        refine bodyPost_ret (results_none rfl _ _ _) rfl ?_
        exact ⟨⟨_, rfl⟩, .inr ⟨_, ⟨k, hkl, rfl⟩, HJx3.out⟩⟩
end Go.Proofs.YtmkbbekeimnajaaDoor
