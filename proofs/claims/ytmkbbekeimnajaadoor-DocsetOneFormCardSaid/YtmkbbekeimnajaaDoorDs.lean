/- sets in memory -/
import Derived.Test.YtmkbbekeimnajaaDoorBase
import Derived.Test.YtmkbbekeimnajaaDoorWp
import Derived.Test.YtmkbbekeimnajaaDoorOc
namespace Go.Proofs.YtmkbbekeimnajaaDoor
open Go.RowKit Ds
def nw (n : Nat) : Nat := (n + 63) / 64
def wds (m : Nat → Bool) (k : Nat) : List Value := (List.range k).map fun j => .int .u64 (word m j : Nat)
theorem wds_len (m : Nat → Bool) (k : Nat) : (wds m k).length = k := by simp [wds]
theorem wds_get (m : Nat → Bool) {j k : Nat} (h : j < k) : (wds m k)[j]? = some (.int .u64 (word m j : Nat)) := by simp [wds, h]
/-- a set of n places with the members m: its block, its words' block -/
structure SetAt (w : World) (S g cap n : Nat) (m : Nat → Bool) : Prop where
  hd : w.heap[S]? = some (.cells #[.int .i64 (n : Nat), .int .i64 (cnt m n : Nat), .slice (some ⟨g, 0, none⟩) (nw n) cap] 82 (0, 0))
  ws : ∃ cur : Array Value, w.heap[g]? = some (.cells cur 83 (0, 0)) ∧ cur.size = cap ∧ cur.toList.take (nw n) = wds m (nw n)
  cap : nw n ≤ cap ∧ cap ≤ 9223372036854775807
  off : ∀ i, n ≤ i → m i = false
  small : n ≤ 1048576
section
variable {w w' : World} {S g cap n : Nat} {m : Nat → Bool}
theorem SetAt.keep (h : SetAt w S g cap n m) (hb : Below w.heap.size w w') : SetAt w' S g cap n m := by
  obtain ⟨cur, h1, h2, h3⟩ := h.ws
  exact ⟨(hb.block _ (heap_lt h.hd)).trans h.hd, ⟨cur, (hb.block _ (heap_lt h1)).trans h1, h2, h3⟩, h.cap, h.off, h.small⟩
theorem SetAt.cell (h : SetAt w S g cap n m) {j : Nat} (hj : j < nw n) : w.cell? ⟨g, j, none⟩ = some (.int .u64 (word m j : Nat)) := by
  obtain ⟨cur, h1, h2, h3⟩ := h.ws
  rw [cell_at h1]
  have h4 : (cur.toList.take (nw n))[j]? = (wds m (nw n))[j]? := by rw [h3]
  rw [List.getElem?_take, if_pos hj, wds_get m hj] at h4
  simpa using h4
theorem SetAt.ne (h : SetAt w S g cap n m) : S ≠ g := by
  rintro rfl
  obtain ⟨cur, h1, _⟩ := h.ws
  rw [h.hd] at h1
  simp at h1
theorem nw_le (h : SetAt w S g cap n m) : nw n ≤ 16384 := by have := h.small; unfold nw; omega
end
theorem word_lt' (m : Nat → Bool) (j : Nat) : word m j < 18446744073709551616 := word_lt m j
set_option maxRecDepth 100000 in
theorem inside_yes (w : World) {S g cap n : Nat} {m : Nat → Bool} (h : SetAt w S g cap n m) (i : Nat) (hi : i < n) :
    Calls Tryd.prog 44 #[.pointer (some ⟨S, 0, none⟩), .int .i64 (i : Nat)] w fun e w' => e = .returned (.bool true) ∧ w = w' := by
  obtain ⟨c0, c1, c2⟩ := cells3 h.hd
  have h1 : (0 : Int) ≤ (i : Int) := by omega
  have h2 : (i : Int) < (n : Int) := by omega
  go_enter Tryd.func44, Tryd.ntmps44
  go_wp2_with fail
  go_ret
  exact ⟨rfl, rfl⟩
set_option maxRecDepth 100000 in
theorem inside_no (w : World) {S g cap n : Nat} {m : Nat → Bool} (h : SetAt w S g cap n m) (i : Int) (hi : i < 0 ∨ n ≤ i) :
    Calls Tryd.prog 44 #[.pointer (some ⟨S, 0, none⟩), .int .i64 i] w fun e w' => e = .returned (.bool false) ∧ w = w' := by
  obtain ⟨c0, c1, c2⟩ := cells3 h.hd
  by_cases h0 : 0 ≤ i
  · have h2 : ¬ i < (n : Int) := by omega
    clear hi
    go_enter Tryd.func44, Tryd.ntmps44
    go_wp2_with fail
    go_ret
    exact ⟨rfl, rfl⟩
  · clear hi
    go_enter Tryd.func44, Tryd.ntmps44
    go_wp2_with fail
    go_ret
    exact ⟨rfl, rfl⟩
theorem has_bit (m : Nat → Bool) (q r : Nat) (hr : r < 64) : (bits .and .u64 ((word m q : Int) / 2 ^ r) 1 == 1) = m (64 * q + r) := by
  have hw := word_lt' m q
  have e1 : ((word m q : Nat) : Int) / 2 ^ r = ((word m q / 2 ^ r : Nat) : Int) := by rw [Int.natCast_ediv, Int.natCast_pow]; rfl
  have hd : word m q / 2 ^ r ≤ word m q := Nat.div_le_self _ _
  have a1 := bits_and_u64_nat (word m q / 2 ^ r) 1 (by omega) (by omega)
  rw [e1, show (1 : Int) = ((1 : Nat) : Int) from rfl, a1, Nat.and_one_is_mod]
  have hb := word_bit m q r
  rw [Nat.testBit_eq_decide_div_mod_eq, decide_eq_true hr, Bool.true_and] at hb
  rw [← hb]
  by_cases h : word m q / 2 ^ r % 2 = 1
  · simp [h]
  · have : word m q / 2 ^ r % 2 = 0 := by omega
    simp [this]
set_option maxRecDepth 100000 in
theorem has_in (w : World) {S g cap n : Nat} {m : Nat → Bool} (h : SetAt w S g cap n m) (i : Nat) (hi : i < n) :
    Calls Tryd.prog 20 #[.pointer (some ⟨S, 0, none⟩), .int .i64 (i : Nat)] w fun e w' => e = .returned (.bool (m i)) ∧ w = w' := by
  obtain ⟨c0, c1, c2⟩ := cells3 h.hd
  have hsm := h.small
  have HIN := hide (inside_yes w h i hi)
  obtain ⟨q, hq⟩ : ∃ q, i / 64 = q := ⟨_, rfl⟩
  obtain ⟨r, hr⟩ : ∃ r, i % 64 = r := ⟨_, rfl⟩
  have hcw := h.cell (j := q) (by unfold nw; omega)
  have hqn : q < nw n := by unfold nw; omega
  have hcap := h.cap
  have hnw := nw_le h
  have hr64 : r < 64 := by omega
  have hqi : (i : Int) / 64 = (q : Int) := by omega
  have hri : (i : Int) % 64 = (r : Int) := by omega
  have HQR := hide (show 64 * q + r = i by omega)
  clear hq hr
  go_enter Tryd.func20, Tryd.ntmps20
  go_wp2_with fail
  refine HIN.out.mono ?_
  rintro e wz ⟨rfl, rfl⟩
  go_wp2_with fail
  go_ret
  exact ⟨by rw [has_bit m q r hr64, HQR.out]; rfl, rfl⟩
theorem has_out (w : World) {S g cap n : Nat} {m : Nat → Bool} (h : SetAt w S g cap n m) (i : Int) (hi : i < 0 ∨ n ≤ i) :
    Calls Tryd.prog 20 #[.pointer (some ⟨S, 0, none⟩), .int .i64 i] w fun e w' => e = .returned (.bool false) ∧ w = w' := by
  have HIN := hide (inside_no w h i hi)
  clear hi h
  go_enter Tryd.func20, Tryd.ntmps20
  go_wp2_with fail
  refine HIN.out.mono ?_
  rintro e wz ⟨rfl, rfl⟩
  go_wp2_with fail
  go_ret
  exact ⟨rfl, rfl⟩
theorem or_bit (m : Nat → Bool) (i : Nat) : bits .or .u64 ((word m (i / 64) : Nat) : Int) (IntKind.u64.wrap (2 ^ (i % 64))) = ((word (put m i true) (i / 64) : Nat) : Int) := by
  have hw := word_lt' m (i / 64)
  have hp : 2 ^ (i % 64) < 2 ^ 64 := Nat.pow_lt_pow_right (by omega) (Nat.mod_lt _ (by omega))
  have e1 : IntKind.u64.wrap ((2 : Int) ^ (i % 64)) = ((2 ^ (i % 64) : Nat) : Int) := by
    have e2 : (2 : Int) ^ (i % 64) = ((2 ^ (i % 64) : Nat) : Int) := by rw [Int.natCast_pow]; rfl
    rw [IntKind.wrap_u64, e2]
    generalize 2 ^ (i % 64) = p at hp ⊢
    omega
  rw [e1, bits_or_u64_nat _ _ hw (by omega), word_add]
theorem SetAt.free {w : World} {S g cap n : Nat} {m : Nat → Bool} (h : SetAt w S g cap n m) (j : Nat) : w.frozen? ⟨g, j, none⟩ = false := by
  obtain ⟨cur, h1, _⟩ := h.ws
  exact free_at h1 j
theorem wds_put (m : Nat → Bool) (i k : Nat) (b : Bool) : (wds m k).set (i / 64) (.int .u64 (word (put m i b) (i / 64) : Nat)) = wds (put m i b) k := by
  apply List.ext_getElem?
  intro j
  rw [List.getElem?_set]
  by_cases hj : j < k
  · rw [wds_get _ hj, wds_get _ hj, wds_len]
    by_cases e : i / 64 = j
    · subst e; simp [hj]
    · rw [if_neg e, word_put m i b j (fun h => e h.symm)]
  · rw [List.getElem?_eq_none (by rw [wds_len]; omega), List.getElem?_eq_none (by rw [wds_len]; omega), wds_len]
    split
    · rw [if_neg (by omega)]
    · rfl
/-- a word is written, then the count -/
theorem SetAt.put1 {w : World} {S g cap n : Nat} {m : Nat → Bool} (h : SetAt w S g cap n m) (i : Nat) (b : Bool) :
    (w.setCell ⟨g, i / 64, none⟩ (.int .u64 (word (put m i b) (i / 64) : Nat))).drew.heap[S]? = some (.cells #[.int .i64 (n : Nat), .int .i64 (cnt m n : Nat), .slice (some ⟨g, 0, none⟩) (nw n) cap] 82 (0, 0)) ∧
    (∃ cur : Array Value, (w.setCell ⟨g, i / 64, none⟩ (.int .u64 (word (put m i b) (i / 64) : Nat))).drew.heap[g]? = some (.cells cur 83 (0, 0)) ∧ cur.size = cap ∧ cur.toList.take (nw n) = wds (put m i b) (nw n)) ∧
    Foot w (w.setCell ⟨g, i / 64, none⟩ (.int .u64 (word (put m i b) (i / 64) : Nat))).drew (fun k => k = S ∨ k = g) := by
  obtain ⟨cur, h1, h2, h3⟩ := h.ws
  refine ⟨heap_else h.hd h.ne _, ⟨_, heap_set h1 _, by rw [Array.size_setIfInBounds]; exact h2, ?_⟩, ((Foot.refl _ _).setCell _ _ (.inl (.inr rfl))).drew⟩
  rw [Array.toList_setIfInBounds, List.take_set, h3, wds_put]
theorem SetAt.put2 {w w1 : World} {S g cap n : Nat} {m m' : Nat → Bool} (h : SetAt w S g cap n m) (h1 : w1.heap[S]? = some (.cells #[.int .i64 (n : Nat), .int .i64 (cnt m n : Nat), .slice (some ⟨g, 0, none⟩) (nw n) cap] 82 (0, 0)))
    (h2 : ∃ cur : Array Value, w1.heap[g]? = some (.cells cur 83 (0, 0)) ∧ cur.size = cap ∧ cur.toList.take (nw n) = wds m' (nw n)) {c : Int} (hm : ∀ i, n ≤ i → m' i = false) (hc : c = (cnt m' n : Nat)) :
    SetAt (w1.setCell ⟨S, 1, none⟩ (.int .i64 c)) S g cap n m' := by
  subst hc
  obtain ⟨cur, k1, k2, k3⟩ := h2
  exact ⟨by rw [heap_set h1]; rfl, ⟨cur, heap_else k1 h.ne.symm _, k2, k3⟩, h.cap, hm, h.small⟩
theorem put_off {m : Nat → Bool} {n i : Nat} {b : Bool} (h : ∀ i, n ≤ i → m i = false) (hi : i < n) : ∀ j, n ≤ j → put m i b j = false := fun j hj => by
  unfold put
  rw [if_neg (by omega)]
  exact h j hj
set_option maxRecDepth 100000 in
theorem add_new (w : World) {S g cap n : Nat} {m : Nat → Bool} (h : SetAt w S g cap n m) (i : Nat) (hi : i < n) (hm : m i = false) :
    Calls Tryd.prog 16 #[.pointer (some ⟨S, 0, none⟩), .int .i64 (i : Nat)] w fun e w' => e = .returned (.tuple #[.bool true, .nilIface]) ∧ SetAt w' S g cap n (put m i true) ∧ Foot w w' (fun k => k = S ∨ k = g) := by
  obtain ⟨c0, c1, c2⟩ := cells3 h.hd
  have hsm := h.small
  have HIN := hide (inside_yes w h i hi)
  have HHA := hide (has_in w h i hi)
  rw [hm] at HHA
  have HS := hide h
  obtain ⟨q, hq⟩ : ∃ q, i / 64 = q := ⟨_, rfl⟩
  obtain ⟨r, hr⟩ : ∃ r, i % 64 = r := ⟨_, rfl⟩
  have hcw := h.cell (j := q) (by unfold nw; omega)
  have hqn : q < nw n := by unfold nw; omega
  have hcap := h.cap
  have hnw := nw_le h
  have hr64 : r < 64 := by omega
  have hqi : (i : Int) / 64 = (q : Int) := by omega
  have hri : (i : Int) % 64 = (r : Int) := by omega
  have HQ := hide (And.intro hq hr)
  have HM := hide hm
  have hO := or_bit m i
  rw [hq, hr] at hO
  have hf := h.free q
  have hfS := free_at h.hd 1
  have hcn : cnt m n ≤ n := cnt_le m n
  clear hq hr hm h
  go_enter Tryd.func16, Tryd.ntmps16
  go_wp2_with fail
  refine HIN.out.mono ?_
  rintro e wz ⟨rfl, rfl⟩
  go_wp2_with fail
  refine HHA.out.mono ?_
  rintro e wz ⟨rfl, rfl⟩
  go_wp2_with fail
  go_region
  obtain ⟨hS1, hW1, hF1⟩ := HS.out.put1 i true
  rw [HQ.out.1] at hS1 hW1 hF1
  have HS1 := hide hS1
  have HW1 := hide hW1
  have HF1 := hide hF1
  clear hS1 hW1 hF1 c0 c1 c2 hcw hf hfS hO
  generalize (w.setCell ⟨g, q, none⟩ (.int .u64 (word (put m i true) q : Nat))).drew = w1 at *
  obtain ⟨c0, c1, c2⟩ := cells3 HS1.out
  have hfS := free_at HS1.out 1
  have hcw : IntKind.i64.wrap ((cnt m n : Int) + 1) = (cnt m n : Int) + 1 := by rw [IntKind.wrap_i64]; omega
  go_wp2_with fail
  go_ret2
  refine ⟨rfl, HS.out.put2 HS1.out HW1.out (put_off HS.out.off hi) ?_, HF1.out.setCell _ _ (.inl (.inl rfl))⟩
  have := cnt_put m i true n
  rw [HM.out] at this
  simp [hi] at this
  omega
end Go.Proofs.YtmkbbekeimnajaaDoor
