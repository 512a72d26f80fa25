/- the members as a list -/
import Derived.Test.YtmkbbekeimnajaaDoorNx
namespace Go.Proofs.YtmkbbekeimnajaaDoor
open Go.RowKit Ds
theorem next_eq (m : Nat → Bool) (n i : Nat) : next m n i = (Ds.mem m n)[cnt m i]? := by
  by_cases h : i ≤ n
  · have e : List.range n = List.range i ++ (List.range n).drop i := by
      conv => lhs; rw [← List.take_append_drop i (List.range n), List.take_range, Nat.min_eq_left h]
    unfold next Ds.mem
    conv => rhs; rw [e, List.filter_append]
    rw [List.getElem?_append_right (by unfold cnt Ds.mem; exact Nat.le_refl _)]
    have : cnt m i - (List.filter m (List.range i)).length = 0 := by unfold cnt Ds.mem; omega
    rw [this, ← List.head?_eq_getElem?, List.head?_filter]
  · have h1 := cnt_mono m (a := n) (b := i) (by omega)
    rw [next_none (fun j h1 h2 => absurd h2 (by omega)), List.getElem?_eq_none (by unfold cnt at h1; exact h1)]
def mI (m : Nat → Bool) (n : Nat) : List Int := (Ds.mem m n).map Int.ofNat
theorem mI_len (m : Nat → Bool) (n : Nat) : (mI m n).length = cnt m n := by simp [mI, cnt]
def AtK (m : Nat → Bool) (n k : Nat) (a b : Value) : Prop :=
  match (Ds.mem m n)[k]? with
  | some x => a = .int .i64 (x : Nat) ∧ b = .bool true
  | none => a = .int .i64 0 ∧ b = .bool false
theorem next_at {m : Nat → Bool} {n i : Nat} {e : Ending} (h : NextOut m n i e) : ∃ a b, e = .returned (.tuple #[a, b]) ∧ AtK m n (cnt m i) a b := by
  unfold NextOut at h
  unfold AtK
  rw [next_eq] at h
  cases hk : (Ds.mem m n)[cnt m i]? with
  | none => rw [hk] at h; exact ⟨_, _, h, rfl, rfl⟩
  | some x => rw [hk] at h; exact ⟨_, _, h, rfl, rfl⟩
theorem mem_at {m : Nat → Bool} {n k x : Nat} (h : (Ds.mem m n)[k]? = some x) : x < n ∧ cnt m (x + 1) = k + 1 ∧ (mI m n).take (k + 1) = (mI m n).take k ++ [(x : Int)] := by
  obtain ⟨h1, h2, h3⟩ := (mem_get m n k x).1 h
  refine ⟨h1, by rw [cnt_succ, if_pos h2, h3], ?_⟩
  unfold mI
  rw [List.take_add_one, List.getElem?_map, h]
  rfl
set_option maxRecDepth 100000 in
set_option maxHeartbeats 2000000 in
theorem members_any (w : World) {S g cap n : Nat} {m : Nat → Bool} (h : SetAt w S g cap n m) (hT : DeBr w) (hg : 15 < w.heap.size) :
    Calls Tryd.prog 13 #[.pointer (some ⟨S, 0, none⟩)] w fun e w' => ∃ v, e = .returned v ∧ w'.ownsRow w.heap.size 3 1 v (cnt m n) (intCells (mI m n)) ∧ Below w.heap.size w w' := by
  obtain ⟨c0, c1, c2⟩ := cells3 h.hd
  have hsm := h.small
  have HS := hide h
  have HT := hide hT
  have hcn : cnt m n ≤ n := cnt_le m n
  obtain ⟨i0, hi, hz0, hz1, hz2⟩ := info_parts info3
  clear h hT
  go_enter Tryd.func13, Tryd.ntmps13
  go_wp2_with (first | (at_make; refine wpList_make_own _ rfl _ _ 22 rfl w.heap.size 3 i0 (.int .i64 0) 1 Tryd.underlying22 hi hz0 hz1 _ _ _ (cnt m n) rfl rfl ?_ ?_ ?_ (Nat.le_refl _) ?_))
  · omega
  · rw [hz2]; omega
  · simp only [maxLen]; omega
  intro w1 ho1 hg1
  have HB1 := hide (show Below w.heap.size w w1 from ⟨hg1.os, hg1.tape, hg1.output, hg1.size, fun k hk => hg1.block k hk (by simp)⟩)
  have HO1 := hide ho1
  clear ho1 hg1 c0 c1 c2
  go_wp2_with fail
  refine (next_any w1 (HS.out.keep HB1.out) (debr_below HT.out HB1.out hg) 0).mono ?_
  rintro e wz ⟨hno, rfl⟩
  obtain ⟨a, b, rfl, hat⟩ := next_at hno
  have HAT := hide (show AtK m n 0 a b from by simpa [cnt, Ds.mem] using hat)
  clear hno hat
  go_wp2_with fail
  go_loopw [3, 4, 5] (fun v a b wr => ∃ k, wr.ownsRow w.heap.size 3 1 v k (intCells ((mI m n).take k)) ∧ k ≤ cnt m n ∧ AtK m n k a b ∧ Below w.heap.size w wr) (fun v _ _ _ => cnt m n - (match v with | .slice _ k _ => k | _ => 0))
  case atStart => exact ⟨0, HO1.out, Nat.zero_le _, HAT.out, HB1.out⟩
  case round =>
    obtain ⟨k, hown, hk, hat, hb⟩ := hrel
    have HOW := hide hown
    have HBr := hide hb
    obtain ⟨vo, vc, rfl⟩ := row_shape hown
    have hsr := hb.size
    clear hown hb HO1 HB1 HAT
    unfold AtK at hat
    cases hx : (Ds.mem m n)[k]? with
    | none =>
      rw [hx] at hat
      obtain ⟨rfl, rfl⟩ := hat
      have hke : cnt m n ≤ k := by
        have := List.getElem?_eq_none_iff.1 hx
        exact this
      have hkk : k = cnt m n := by omega
      have HKK := hide hkk
      clear hx hkk hke
      go_wp2_with fail
      go_ret
      refine ⟨_, rfl, ?_, HBr.out⟩
      have := HOW.out
      rw [HKK.out, List.take_of_length_le (by rw [mI_len]; exact Nat.le_refl _)] at this
      rw [HKK.out]
      exact this
    | some x =>
      rw [hx] at hat
      obtain ⟨rfl, rfl⟩ := hat
      obtain ⟨hxn, hc1, htk⟩ := mem_at hx
      have hkl : k < cnt m n := get_lt' hx
      obtain ⟨v6, w6, k1, k2, k3, k4⟩ := run_row (wr.alloc (.cells #[.int .i64 (x : Nat)] 3)) w.heap.size 22 22 3 i0 _ 1 8 Tryd.underlying22 hi hz0 hz1 hz2 rfl (by decide) (.slice vo k vc) (.slice (some ⟨wr.heap.size, 0, none⟩) 1 1) k 1 (intCells ((mI m n).take k)) (intCells [(x : Int)]) (World.ownsRow.alloc HOW.out _) (srcc_one (heap_new rfl _)) (intCells_one _) (by simp only [maxLen]; omega) (by omega) (by rw [World.size_alloc]; omega)
      obtain ⟨vo6, vc6, rfl⟩ := row_shape k2
      have HR6 := hide k1
      have HB6 := hide (show Below w.heap.size w w6 from (HBr.out.alloc hsr _).grown k3 (by rw [World.size_alloc]; omega) (fun j hj => (World.ownsRow.lt HOW.out j hj).1))
      have HO6 := hide (show w6.ownsRow w.heap.size 3 1 (.slice vo6 (k + 1) vc6) (k + 1) (intCells ((mI m n).take (k + 1))) from by rw [htk]; simpa [intCells] using k2)
      have hs6 := HB6.out.size
      have HC1 := hide hc1
      have hwx : IntKind.i64.wrap ((x : Int) + 1) = (x : Int) + 1 := by rw [IntKind.wrap_i64]; omega
      clear k1 k2 k3 k4 htk hc1 hx
      go_wp2_with (at_builtin; refine wpList_run 22 _ w6 _ _ _ rfl (.tmp 24) (.tmp 26) rfl rfl rfl HR6.out ?_)
      go_wp2_with fail
      refine (next_any w6 (HS.out.keep HB6.out) (debr_below HT.out HB6.out hg) ((x : Int) + 1)).mono ?_
      rintro e wz ⟨hno, rfl⟩
      obtain ⟨a, b, rfl, hat⟩ := next_at hno
      have HAT := hide (show AtK m n (k + 1) a b from by
        rw [show ((x : Int) + 1).toNat = x + 1 by omega, HC1.out] at hat
        exact hat)
      clear hno hat
      go_wp2_with fail
      exact ⟨⟨k + 1, HO6.out, by omega, HAT.out, HB6.out⟩, by simp; omega⟩
end Go.Proofs.YtmkbbekeimnajaaDoor
