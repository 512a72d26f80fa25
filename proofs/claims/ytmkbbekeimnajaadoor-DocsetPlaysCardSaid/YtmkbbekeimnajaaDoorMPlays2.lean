/- texts of this proof, one behind the other: Ds Ds2 Li Ds3 Tz Nx Mb -/
import Derived.Test.YtmkbbekeimnajaaDoorMPlays0
import Derived.Test.YtmkbbekeimnajaaDoorMPlays1
import Derived.Maps.AppendAt
import Derived.Deep.RegionHeld
import Derived.WalkSmall
import Derived.Lib.TrailingZeros
/-! Ds: sets in memory -/
namespace Go.Proofs.YtmkbbekeimnajaaDoor
open Go.RowKit Ds
def nw (n : Nat) : Nat := (n + 63) / 64
def wds (m : Nat → Bool) (k : Nat) : List Value := (List.range k).map fun j => .int .u64 (word m j : Nat)
theorem wds_len (m : Nat → Bool) (k : Nat) : (wds m k).length = k := by simp [wds]
theorem wds_get (m : Nat → Bool) {j k : Nat} (h : j < k) : (wds m k)[j]? = some (.int .u64 (word m j : Nat)) := by simp [wds, h]
/-- a set of n places with the members m: its block, its words' block -/
structure SetAt (w : World) (S g cap n : Nat) (m : Nat → Bool) : Prop where
  hd : w.heap[S]? = some (.cells #[.int .i64 (n : Nat), .int .i64 (cnt m n : Nat), .slice (some ⟨g, 0, none⟩) (nw n) cap] 82 (0, 0))
  ws : ∃ cur : Array Value, w.heap[g]? = some (.cells cur 83 (0, 0)) ∧ cur.size = cap ∧ cur.toList.take (nw n) = wds m (nw n)
  cap : nw n ≤ cap ∧ cap ≤ 9223372036854775807
  off : ∀ i, n ≤ i → m i = false
  small : n ≤ 1048576
section
variable {w w' : World} {S g cap n : Nat} {m : Nat → Bool}
theorem SetAt.keep (h : SetAt w S g cap n m) (hb : Below w.heap.size w w') : SetAt w' S g cap n m := by
  obtain ⟨cur, h1, h2, h3⟩ := h.ws
  exact ⟨(hb.block _ (heap_lt h.hd)).trans h.hd, ⟨cur, (hb.block _ (heap_lt h1)).trans h1, h2, h3⟩, h.cap, h.off, h.small⟩
theorem SetAt.cell (h : SetAt w S g cap n m) {j : Nat} (hj : j < nw n) : w.cell? ⟨g, j, none⟩ = some (.int .u64 (word m j : Nat)) := by
  obtain ⟨cur, h1, h2, h3⟩ := h.ws
  rw [cell_at h1]
  have h4 : (cur.toList.take (nw n))[j]? = (wds m (nw n))[j]? := by rw [h3]
  rw [List.getElem?_take, if_pos hj, wds_get m hj] at h4
  simpa using h4
theorem SetAt.ne (h : SetAt w S g cap n m) : S ≠ g := by
  rintro rfl
  obtain ⟨cur, h1, _⟩ := h.ws
  rw [h.hd] at h1
  simp at h1
theorem nw_le (h : SetAt w S g cap n m) : nw n ≤ 16384 := by have := h.small; unfold nw; omega
end
theorem word_lt' (m : Nat → Bool) (j : Nat) : word m j < 18446744073709551616 := word_lt m j
set_option maxRecDepth 100000 in
theorem inside_yes (w : World) {S g cap n : Nat} {m : Nat → Bool} (h : SetAt w S g cap n m) (i : Nat) (hi : i < n) :
    Calls Tryd.prog 44 #[.pointer (some ⟨S, 0, none⟩), .int .i64 (i : Nat)] w fun e w' => e = .returned (.bool true) ∧ w = w' := by
  obtain ⟨c0, c1, c2⟩ := cells3 h.hd
  have h1 : (0 : Int) ≤ (i : Int) := by omega
  have h2 : (i : Int) < (n : Int) := by omega
  go_enter Tryd.func44, Tryd.ntmps44
  go_wp2_with fail
  go_ret
  exact ⟨rfl, rfl⟩
set_option maxRecDepth 100000 in
theorem inside_no (w : World) {S g cap n : Nat} {m : Nat → Bool} (h : SetAt w S g cap n m) (i : Int) (hi : i < 0 ∨ n ≤ i) :
    Calls Tryd.prog 44 #[.pointer (some ⟨S, 0, none⟩), .int .i64 i] w fun e w' => e = .returned (.bool false) ∧ w = w' := by
  obtain ⟨c0, c1, c2⟩ := cells3 h.hd
  by_cases h0 : 0 ≤ i
  · have h2 : ¬ i < (n : Int) := by omega
    clear hi
    go_enter Tryd.func44, Tryd.ntmps44
    go_wp2_with fail
    go_ret
    exact ⟨rfl, rfl⟩
  · clear hi
    go_enter Tryd.func44, Tryd.ntmps44
    go_wp2_with fail
    go_ret
    exact ⟨rfl, rfl⟩
theorem has_bit (m : Nat → Bool) (q r : Nat) (hr : r < 64) : (bits .and .u64 ((word m q : Int) / 2 ^ r) 1 == 1) = m (64 * q + r) := by
  have hw := word_lt' m q
  have e1 : ((word m q : Nat) : Int) / 2 ^ r = ((word m q / 2 ^ r : Nat) : Int) := by rw [Int.natCast_ediv, Int.natCast_pow]; rfl
  have hd : word m q / 2 ^ r ≤ word m q := Nat.div_le_self _ _
  have a1 := bits_and_u64_nat (word m q / 2 ^ r) 1 (by omega) (by omega)
  rw [e1, show (1 : Int) = ((1 : Nat) : Int) from rfl, a1, Nat.and_one_is_mod]
  have hb := word_bit m q r
  rw [Nat.testBit_eq_decide_div_mod_eq, decide_eq_true hr, Bool.true_and] at hb
  rw [← hb]
  by_cases h : word m q / 2 ^ r % 2 = 1
  · simp [h]
  · have : word m q / 2 ^ r % 2 = 0 := by omega
    simp [this]
set_option maxRecDepth 100000 in
theorem has_in (w : World) {S g cap n : Nat} {m : Nat → Bool} (h : SetAt w S g cap n m) (i : Nat) (hi : i < n) :
    Calls Tryd.prog 20 #[.pointer (some ⟨S, 0, none⟩), .int .i64 (i : Nat)] w fun e w' => e = .returned (.bool (m i)) ∧ w = w' := by
  obtain ⟨c0, c1, c2⟩ := cells3 h.hd
  have hsm := h.small
  have HIN := hide (inside_yes w h i hi)
  obtain ⟨q, hq⟩ : ∃ q, i / 64 = q := ⟨_, rfl⟩
  obtain ⟨r, hr⟩ : ∃ r, i % 64 = r := ⟨_, rfl⟩
  have hcw := h.cell (j := q) (by unfold nw; omega)
  have hqn : q < nw n := by unfold nw; omega
  have hcap := h.cap
  have hnw := nw_le h
  have hr64 : r < 64 := by omega
  have hqi : (i : Int) / 64 = (q : Int) := by omega
  have hri : (i : Int) % 64 = (r : Int) := by omega
  have HQR := hide (show 64 * q + r = i by omega)
  clear hq hr
  go_enter Tryd.func20, Tryd.ntmps20
  go_wp2_with fail
  refine HIN.out.mono ?_
  rintro e wz ⟨rfl, rfl⟩
  go_wp2_with fail
  go_ret
  exact ⟨by rw [has_bit m q r hr64, HQR.out]; rfl, rfl⟩
theorem has_out (w : World) {S g cap n : Nat} {m : Nat → Bool} (h : SetAt w S g cap n m) (i : Int) (hi : i < 0 ∨ n ≤ i) :
    Calls Tryd.prog 20 #[.pointer (some ⟨S, 0, none⟩), .int .i64 i] w fun e w' => e = .returned (.bool false) ∧ w = w' := by
  have HIN := hide (inside_no w h i hi)
  clear hi h
  go_enter Tryd.func20, Tryd.ntmps20
  go_wp2_with fail
  refine HIN.out.mono ?_
  rintro e wz ⟨rfl, rfl⟩
  go_wp2_with fail
  go_ret
  exact ⟨rfl, rfl⟩
theorem or_bit (m : Nat → Bool) (i : Nat) : bits .or .u64 ((word m (i / 64) : Nat) : Int) (IntKind.u64.wrap (2 ^ (i % 64))) = ((word (put m i true) (i / 64) : Nat) : Int) := by
  have hw := word_lt' m (i / 64)
  have hp : 2 ^ (i % 64) < 2 ^ 64 := Nat.pow_lt_pow_right (by omega) (Nat.mod_lt _ (by omega))
  have e1 : IntKind.u64.wrap ((2 : Int) ^ (i % 64)) = ((2 ^ (i % 64) : Nat) : Int) := by
    have e2 : (2 : Int) ^ (i % 64) = ((2 ^ (i % 64) : Nat) : Int) := by rw [Int.natCast_pow]; rfl
    rw [IntKind.wrap_u64, e2]
    generalize 2 ^ (i % 64) = p at hp ⊢
    omega
  rw [e1, bits_or_u64_nat _ _ hw (by omega), word_add]
theorem SetAt.free {w : World} {S g cap n : Nat} {m : Nat → Bool} (h : SetAt w S g cap n m) (j : Nat) : w.frozen? ⟨g, j, none⟩ = false := by
  obtain ⟨cur, h1, _⟩ := h.ws
  exact free_at h1 j
theorem wds_put (m : Nat → Bool) (i k : Nat) (b : Bool) : (wds m k).set (i / 64) (.int .u64 (word (put m i b) (i / 64) : Nat)) = wds (put m i b) k := by
  apply List.ext_getElem?
  intro j
  rw [List.getElem?_set]
  by_cases hj : j < k
  · rw [wds_get _ hj, wds_get _ hj, wds_len]
    by_cases e : i / 64 = j
    · subst e; simp [hj]
    · rw [if_neg e, word_put m i b j (fun h => e h.symm)]
  · rw [List.getElem?_eq_none (by rw [wds_len]; omega), List.getElem?_eq_none (by rw [wds_len]; omega), wds_len]
    split
    · rw [if_neg (by omega)]
    · rfl
/-- a word is written, then the count -/
theorem SetAt.put1 {w : World} {S g cap n : Nat} {m : Nat → Bool} (h : SetAt w S g cap n m) (i : Nat) (b : Bool) :
    (w.setCell ⟨g, i / 64, none⟩ (.int .u64 (word (put m i b) (i / 64) : Nat))).drew.heap[S]? = some (.cells #[.int .i64 (n : Nat), .int .i64 (cnt m n : Nat), .slice (some ⟨g, 0, none⟩) (nw n) cap] 82 (0, 0)) ∧
    (∃ cur : Array Value, (w.setCell ⟨g, i / 64, none⟩ (.int .u64 (word (put m i b) (i / 64) : Nat))).drew.heap[g]? = some (.cells cur 83 (0, 0)) ∧ cur.size = cap ∧ cur.toList.take (nw n) = wds (put m i b) (nw n)) ∧
    Foot w (w.setCell ⟨g, i / 64, none⟩ (.int .u64 (word (put m i b) (i / 64) : Nat))).drew (fun k => k = S ∨ k = g) := by
  obtain ⟨cur, h1, h2, h3⟩ := h.ws
  refine ⟨heap_else h.hd h.ne _, ⟨_, heap_set h1 _, by rw [Array.size_setIfInBounds]; exact h2, ?_⟩, ((Foot.refl _ _).setCell _ _ (.inl (.inr rfl))).drew⟩
  rw [Array.toList_setIfInBounds, List.take_set, h3, wds_put]
theorem SetAt.put2 {w w1 : World} {S g cap n : Nat} {m m' : Nat → Bool} (h : SetAt w S g cap n m) (h1 : w1.heap[S]? = some (.cells #[.int .i64 (n : Nat), .int .i64 (cnt m n : Nat), .slice (some ⟨g, 0, none⟩) (nw n) cap] 82 (0, 0)))
    (h2 : ∃ cur : Array Value, w1.heap[g]? = some (.cells cur 83 (0, 0)) ∧ cur.size = cap ∧ cur.toList.take (nw n) = wds m' (nw n)) {c : Int} (hm : ∀ i, n ≤ i → m' i = false) (hc : c = (cnt m' n : Nat)) :
    SetAt (w1.setCell ⟨S, 1, none⟩ (.int .i64 c)) S g cap n m' := by
  subst hc
  obtain ⟨cur, k1, k2, k3⟩ := h2
  exact ⟨by rw [heap_set h1]; rfl, ⟨cur, heap_else k1 h.ne.symm _, k2, k3⟩, h.cap, hm, h.small⟩
theorem put_off {m : Nat → Bool} {n i : Nat} {b : Bool} (h : ∀ i, n ≤ i → m i = false) (hi : i < n) : ∀ j, n ≤ j → put m i b j = false := fun j hj => by
  unfold put
  rw [if_neg (by omega)]
  exact h j hj
set_option maxRecDepth 100000 in
theorem add_new (w : World) {S g cap n : Nat} {m : Nat → Bool} (h : SetAt w S g cap n m) (i : Nat) (hi : i < n) (hm : m i = false) :
    Calls Tryd.prog 16 #[.pointer (some ⟨S, 0, none⟩), .int .i64 (i : Nat)] w fun e w' => e = .returned (.tuple #[.bool true, .nilIface]) ∧ SetAt w' S g cap n (put m i true) ∧ Foot w w' (fun k => k = S ∨ k = g) := by
  obtain ⟨c0, c1, c2⟩ := cells3 h.hd
  have hsm := h.small
  have HIN := hide (inside_yes w h i hi)
  have HHA := hide (has_in w h i hi)
  rw [hm] at HHA
  have HS := hide h
  obtain ⟨q, hq⟩ : ∃ q, i / 64 = q := ⟨_, rfl⟩
  obtain ⟨r, hr⟩ : ∃ r, i % 64 = r := ⟨_, rfl⟩
  have hcw := h.cell (j := q) (by unfold nw; omega)
  have hqn : q < nw n := by unfold nw; omega
  have hcap := h.cap
  have hnw := nw_le h
  have hr64 : r < 64 := by omega
  have hqi : (i : Int) / 64 = (q : Int) := by omega
  have hri : (i : Int) % 64 = (r : Int) := by omega
  have HQ := hide (And.intro hq hr)
  have HM := hide hm
  have hO := or_bit m i
  rw [hq, hr] at hO
  have hf := h.free q
  have hfS := free_at h.hd 1
  have hcn : cnt m n ≤ n := cnt_le m n
  clear hq hr hm h
  go_enter Tryd.func16, Tryd.ntmps16
  go_wp2_with fail
  refine HIN.out.mono ?_
  rintro e wz ⟨rfl, rfl⟩
  go_wp2_with fail
  refine HHA.out.mono ?_
  rintro e wz ⟨rfl, rfl⟩
  go_wp2_with fail
  go_region
  obtain ⟨hS1, hW1, hF1⟩ := HS.out.put1 i true
  rw [HQ.out.1] at hS1 hW1 hF1
  have HS1 := hide hS1
  have HW1 := hide hW1
  have HF1 := hide hF1
  clear hS1 hW1 hF1 c0 c1 c2 hcw hf hfS hO
  generalize (w.setCell ⟨g, q, none⟩ (.int .u64 (word (put m i true) q : Nat))).drew = w1 at *
  obtain ⟨c0, c1, c2⟩ := cells3 HS1.out
  have hfS := free_at HS1.out 1
  have hcw : IntKind.i64.wrap ((cnt m n : Int) + 1) = (cnt m n : Int) + 1 := by rw [IntKind.wrap_i64]; omega
  go_wp2_with fail
  go_ret2
  refine ⟨rfl, HS.out.put2 HS1.out HW1.out (put_off HS.out.off hi) ?_, HF1.out.setCell _ _ (.inl (.inl rfl))⟩
  have := cnt_put m i true n
  rw [HM.out] at this
  simp [hi] at this
  omega
end Go.Proofs.YtmkbbekeimnajaaDoor

/-! Ds2: sets in memory: Add, Remove, New, Clone -/
namespace Go.Proofs.YtmkbbekeimnajaaDoor
open Go.RowKit Ds
set_option maxRecDepth 100000 in
theorem add_old (w : World) {S g cap n : Nat} {m : Nat → Bool} (h : SetAt w S g cap n m) (i : Nat) (hi : i < n) (hm : m i = true) :
    Calls Tryd.prog 16 #[.pointer (some ⟨S, 0, none⟩), .int .i64 (i : Nat)] w fun e w' => e = .returned (.tuple #[.bool false, .nilIface]) ∧ w = w' := by
  have HIN := hide (inside_yes w h i hi)
  have HHA := hide (has_in w h i hi)
  rw [hm] at HHA
  clear hm h
  go_enter Tryd.func16, Tryd.ntmps16
  go_wp2_with fail
  refine HIN.out.mono ?_
  rintro e wz ⟨rfl, rfl⟩
  go_wp2_with fail
  refine HHA.out.mono ?_
  rintro e wz ⟨rfl, rfl⟩
  go_wp2_with fail
  go_ret2
  exact ⟨rfl, rfl⟩
set_option maxRecDepth 100000 in
theorem add_out (w : World) {S g cap n : Nat} {m : Nat → Bool} (h : SetAt w S g cap n m) (i : Int) (hi : i < 0 ∨ n ≤ i) (a : Addr) (hE : ErrAt w 0 a) :
    Calls Tryd.prog 16 #[.pointer (some ⟨S, 0, none⟩), .int .i64 i] w fun e w' => e = .returned (.tuple #[.bool false, .iface 153 (.pointer (some a))]) ∧ ∃ q, w' = w.drewN q := by
  have HIN := hide (inside_no w h i hi)
  unfold ErrAt at hE
  clear hi h
  go_enter Tryd.func16, Tryd.ntmps16
  go_wp2_with fail
  refine HIN.out.mono ?_
  rintro e wz ⟨rfl, rfl⟩
  go_wp2_with fail
  go_quiet (fail)
  go_wp2_with fail
  go_ret2
  exact ⟨rfl, _, rfl⟩
set_option maxRecDepth 100000 in
theorem rem_old (w : World) {S g cap n : Nat} {m : Nat → Bool} (h : SetAt w S g cap n m) (i : Nat) (hi : i < n) (hm : m i = false) :
    Calls Tryd.prog 15 #[.pointer (some ⟨S, 0, none⟩), .int .i64 (i : Nat)] w fun e w' => e = .returned (.tuple #[.bool false, .nilIface]) ∧ w = w' := by
  have HIN := hide (inside_yes w h i hi)
  have HHA := hide (has_in w h i hi)
  rw [hm] at HHA
  clear hm h
  go_enter Tryd.func15, Tryd.ntmps15
  go_wp2_with fail
  refine HIN.out.mono ?_
  rintro e wz ⟨rfl, rfl⟩
  go_wp2_with fail
  refine HHA.out.mono ?_
  rintro e wz ⟨rfl, rfl⟩
  go_wp2_with fail
  go_ret2
  exact ⟨rfl, rfl⟩
set_option maxRecDepth 100000 in
theorem rem_out (w : World) {S g cap n : Nat} {m : Nat → Bool} (h : SetAt w S g cap n m) (i : Int) (hi : i < 0 ∨ n ≤ i) (a : Addr) (hE : ErrAt w 0 a) :
    Calls Tryd.prog 15 #[.pointer (some ⟨S, 0, none⟩), .int .i64 i] w fun e w' => e = .returned (.tuple #[.bool false, .iface 153 (.pointer (some a))]) ∧ ∃ q, w' = w.drewN q := by
  have HIN := hide (inside_no w h i hi)
  unfold ErrAt at hE
  clear hi h
  go_enter Tryd.func15, Tryd.ntmps15
  go_wp2_with fail
  refine HIN.out.mono ?_
  rintro e wz ⟨rfl, rfl⟩
  go_wp2_with fail
  go_quiet (fail)
  go_wp2_with fail
  go_ret2
  exact ⟨rfl, _, rfl⟩
theorem word_rem (m : Nat → Bool) (i : Nat) : (BitVec.ofNat 64 (word m (i / 64)) &&& ~~~(BitVec.ofNat 64 (2 ^ (i % 64)))).toNat = word (put m i false) (i / 64) := by
  refine num_ext (BitVec.isLt _) fun k hk => ?_
  rw [BitVec.testBit_toNat, BitVec.getLsbD_and, BitVec.getLsbD_not, BitVec.getLsbD_ofNat, BitVec.getLsbD_ofNat, word_bit, Nat.testBit_two_pow]
  unfold put
  by_cases h : i % 64 = k
  · rw [if_pos (by omega)]; simp [h, hk]
  · rw [if_neg (by omega)]; simp [h, hk]
theorem not_bit (m : Nat → Bool) (i : Nat) : bits .andNot .u64 ((word m (i / 64) : Nat) : Int) (IntKind.u64.wrap (2 ^ (i % 64))) = ((word (put m i false) (i / 64) : Nat) : Int) := by
  have hw := word_lt' (put m i false) (i / 64)
  have hp : 2 ^ (i % 64) < 2 ^ 64 := Nat.pow_lt_pow_right (by omega) (Nat.mod_lt _ (by omega))
  have e1 : IntKind.u64.wrap ((2 : Int) ^ (i % 64)) = ((2 ^ (i % 64) : Nat) : Int) := by
    have e2 : (2 : Int) ^ (i % 64) = ((2 ^ (i % 64) : Nat) : Int) := by rw [Int.natCast_pow]; rfl
    rw [IntKind.wrap_u64, e2]
    generalize 2 ^ (i % 64) = p at hp ⊢
    omega
  rw [e1]
  have hx := word_rem m i
  show IntKind.u64.wrap ((BitVec.ofInt 64 ((word m (i / 64) : Nat) : Int) &&& ~~~(BitVec.ofInt 64 ((2 ^ (i % 64) : Nat) : Int))).toNat : Int) = _
  rw [BitVec.ofInt_natCast, BitVec.ofInt_natCast, hx, IntKind.wrap_u64]
  omega
set_option maxRecDepth 100000 in
theorem rem_new (w : World) {S g cap n : Nat} {m : Nat → Bool} (h : SetAt w S g cap n m) (i : Nat) (hi : i < n) (hm : m i = true) :
    Calls Tryd.prog 15 #[.pointer (some ⟨S, 0, none⟩), .int .i64 (i : Nat)] w fun e w' => e = .returned (.tuple #[.bool true, .nilIface]) ∧ SetAt w' S g cap n (put m i false) ∧ Foot w w' (fun k => k = S ∨ k = g) := by
  obtain ⟨c0, c1, c2⟩ := cells3 h.hd
  have hsm := h.small
  have HIN := hide (inside_yes w h i hi)
  have HHA := hide (has_in w h i hi)
  rw [hm] at HHA
  have HS := hide h
  obtain ⟨q, hq⟩ : ∃ q, i / 64 = q := ⟨_, rfl⟩
  obtain ⟨r, hr⟩ : ∃ r, i % 64 = r := ⟨_, rfl⟩
  have hcw := h.cell (j := q) (by unfold nw; omega)
  have hqn : q < nw n := by unfold nw; omega
  have hcap := h.cap
  have hnw := nw_le h
  have hr64 : r < 64 := by omega
  have hqi : (i : Int) / 64 = (q : Int) := by omega
  have hri : (i : Int) % 64 = (r : Int) := by omega
  have HQ := hide (And.intro hq hr)
  have HM := hide hm
  have hf := h.free q
  have hfS := free_at h.hd 1
  have hcn : cnt m n ≤ n := cnt_le m n
  have hcq := cnt_put m i false n
  rw [hm] at hcq
  simp [hi] at hcq
  have hc1 : 1 ≤ cnt m n := by omega
  have HCQ := hide hcq
  have hO := not_bit m i
  rw [hq, hr] at hO
  clear hq hr hm h hcq
  go_enter Tryd.func15, Tryd.ntmps15
  go_wp2_with fail
  refine HIN.out.mono ?_
  rintro e wz ⟨rfl, rfl⟩
  go_wp2_with fail
  refine HHA.out.mono ?_
  rintro e wz ⟨rfl, rfl⟩
  go_wp2_with fail
  go_region
  obtain ⟨hS1, hW1, hF1⟩ := HS.out.put1 i false
  rw [HQ.out.1] at hS1 hW1 hF1
  have HS1 := hide hS1
  have HW1 := hide hW1
  have HF1 := hide hF1
  clear hS1 hW1 hF1 c0 c1 c2 hcw hf hfS hO
  generalize (w.setCell ⟨g, q, none⟩ (.int .u64 (word (put m i false) q : Nat))).drew = w1 at *
  obtain ⟨c0, c1, c2⟩ := cells3 HS1.out
  have hfS := free_at HS1.out 1
  have hcw : IntKind.i64.wrap ((cnt m n : Int) - 1) = (cnt m n : Int) - 1 := by rw [IntKind.wrap_i64]; omega
  go_wp2_with fail
  go_ret2
  refine ⟨rfl, HS.out.put2 HS1.out HW1.out (put_off HS.out.off hi) ?_, HF1.out.setCell _ _ (.inl (.inl rfl))⟩
  have := HCQ.out
  omega
end Go.Proofs.YtmkbbekeimnajaaDoor

/-! Li: rows of numbers, lists that came in -/
namespace Go.Proofs.YtmkbbekeimnajaaDoor
open Go.RowKit
theorem lt_keep {w w' : World} {a : Addr} {x : Value} (h : w.cell? a = some x) (hb : Below w.heap.size w w') : w'.cell? a = some x := (hb.cell (World.block_lt_of_cell? w _ h)).trans h

/-- a list of numbers that lies in memory -/
def Ints (w : World) (v : Value) (zs : List Int) : Prop :=
  (v = .slice none 0 0 ∧ zs = []) ∨ ∃ ad cap, v = .slice (some ad) zs.length cap ∧ zs.length ≤ cap ∧ cap ≤ 9223372036854775807 ∧ ∀ (k : Nat) (x : Int), zs[k]? = some x → w.cell? (ad.add k) = some (.int .i64 x)

theorem ints_keep {w w' : World} {v : Value} {zs : List Int} (h : Ints w v zs) (hb : Below w.heap.size w w') : Ints w' v zs := by
  rcases h with h | ⟨ad, cap, h1, h2, h3, h4⟩
  · exact .inl h
  · exact .inr ⟨ad, cap, h1, h2, h3, fun k x hk => lt_keep (h4 k x hk) hb⟩

theorem ints_form {w : World} {v : Value} {zs : List Int} (h : Ints w v zs) : ∃ ao cap, v = .slice ao zs.length cap := by
  rcases h with ⟨rfl, rfl⟩ | ⟨ad, cap, rfl, _⟩
  · exact ⟨_, _, rfl⟩
  · exact ⟨_, _, rfl⟩

theorem ints_get {w : World} {ao : Option Addr} {n cap : Nat} {zs : List Int} (h : Ints w (.slice ao n cap) zs) {i : Nat} {x : Int} (hx : zs[i]? = some x) : ∃ ad, ao = some ad ∧ w.cell? (ad.add i) = some (.int .i64 x) := by
  rcases h with ⟨_, rfl⟩ | ⟨ad, c, hv, _, _, hc⟩
  · simp at hx
  · simp only [Value.slice.injEq] at hv
    exact ⟨ad, hv.1, hc i x hx⟩

/-- cells that an append takes -/
def SrcC (w : World) (v : Value) (m s : Nat) (xs : List Value) : Prop :=
  xs.length = m * s ∧ ((v = .slice none 0 0 ∧ m = 0) ∨ ∃ ad c, v = .slice (some ad) m c ∧ ∀ (j : Nat) (u : Value), xs[j]? = some u → w.cell? (ad.add j) = some u)

theorem srcc_keep {w w' : World} {v : Value} {m s : Nat} {xs : List Value} (h : SrcC w v m s xs) (hb : Below w.heap.size w w') : SrcC w' v m s xs := by
  obtain ⟨h0, h | ⟨ad, c, h1, h2⟩⟩ := h
  · exact ⟨h0, .inl h⟩
  · exact ⟨h0, .inr ⟨ad, c, h1, fun j u hj => lt_keep (h2 j u hj) hb⟩⟩

def intCells (zs : List Int) : List Value := zs.map fun z => .int .i64 z

theorem intCells_len (zs : List Int) : (intCells zs).length = zs.length := by simp [intCells]

theorem intCells_one (zs : List Int) : ∀ u ∈ intCells zs, u.oneCell' = true := by
  intro u hu
  simp only [intCells, List.mem_map] at hu
  obtain ⟨z, _, rfl⟩ := hu
  rfl

theorem srcc_ints {w : World} {v : Value} {zs : List Int} (h : Ints w v zs) : SrcC w v zs.length 1 (intCells zs) := by
  refine ⟨by simp [intCells], ?_⟩
  rcases h with ⟨h1, rfl⟩ | ⟨ad, cap, h1, _, _, h2⟩
  · exact .inl ⟨h1, rfl⟩
  · refine .inr ⟨ad, cap, h1, fun j u hj => ?_⟩
    simp only [intCells, List.getElem?_map, Option.map_eq_some_iff] at hj
    obtain ⟨z, hz, rfl⟩ := hj
    exact h2 j z hz

theorem srcc_src {w : World} {v : Value} {bs : List Nat} (h : Src w v bs) : SrcC w v bs.length 1 (u8s bs) := by
  refine ⟨by simp [u8s], ?_⟩
  rcases h with ⟨_, ⟨h1, rfl⟩ | ⟨ad, cap, h1, _, _, h2⟩⟩
  · exact .inl ⟨h1, rfl⟩
  · refine .inr ⟨ad, cap, h1, fun j u hj => ?_⟩
    simp only [u8s, List.getElem?_map, Option.map_eq_some_iff] at hj
    obtain ⟨z, hz, rfl⟩ := hj
    exact h2 j z hz

set_option maxRecDepth 100000 in
theorem run_row (w : World) (B : Nat) (t ty e : TypeId) (i : TypeInfo) (z : Value) (size bytes : Nat) (ht : Tryd.prog.underlying t = some (.slice e)) (hi : Tryd.prog.info? e = some i) (hz : i.zero = some z)
    (hsize : i.size = size) (hby : i.bytes = bytes) (hzs : z.cells.size = size) (hsz : 0 < size) (v xv : Value) (n m : Nat) (xs news : List Value) (hown : w.ownsRow B e size v n xs) (hs : SrcC w xv m size news) (h1 : ∀ u ∈ news, u.oneCell' = true)
    (h63 : n + m ≤ maxLen) (hbytes : (n + m) * bytes ≤ 140737488355328) (hB : B ≤ w.heap.size) :
    ∃ v' w', (Builtin.append_ #[t, t] ty #[v, xv]).run Tryd.prog w = .ok v' w' ∧ w'.ownsRow B e size v' (n + m) (xs ++ news) ∧ w.grownBy w' v.ownBlock ∧ (v'.ownBlock = v.ownBlock ∨ v'.ownBlock = some w.heap.size) := by
  obtain ⟨hl, ⟨rfl, rfl⟩ | ⟨ad, c, rfl, hc⟩⟩ := hs
  · have hn : news = [] := List.eq_nil_of_length_eq_zero (by rw [hl]; omega)
    subst hn
    refine ⟨v, w, run_append_owned_none (P := Tryd.prog) (w := w) B t ty e i size ht hi v n xs hown, ?_, ⟨rfl, rfl, rfl, Nat.le_refl _, fun _ _ _ => rfl⟩, .inl rfl⟩
    rw [List.append_nil]
    exact hown
  · obtain ⟨v', w', k1, k2, k3, _, k5⟩ := run_append_own_at (P := Tryd.prog) w B t ty e i z size bytes ht hi hz hsize hby hzs hsz v n xs hown ad m c news hl hc h1 h63 hbytes hB
    exact ⟨v', w', k1, k2, k3, k5⟩

theorem step_run {ops : Array Oper} {o : Oper} {a : Act} {K : Act → World → Prop} {Q : Exit → Act → World → Prop} {E : Prop} (t : TypeId) (w w' : World) (v u v' : Value) (hgd : o.guard = none) (s y : Operand)
    (ho : o.op = .call { callee := .builtin .append, args := #[s, y], argTypes := #[t, t] }) (hs : a.eval s = v) (hy : a.eval y = u) (hr : (Builtin.append_ #[t, t] o.type #[v, u]).run Tryd.prog w = .ok v' w') (h : K (a.put o.dst v') w') :
    if Region.wanted o (yielded ops a.tmps) = true then Oper.wp Tryd.prog o a w K Q else E := by
  have hw : Region.wanted o (yielded ops a.tmps) = true := by simp [Region.wanted, hgd]
  rw [if_pos hw]
  unfold Oper.wp execOp
  simp only [ho, resolve, invoke, builtin, Sem.run_bind, Sem.run_pure, Result.andThen_ok, List.map_toArray, List.map_cons, List.map_nil, hs, hy, hr]
  exact h

/-- whatever order: an invariant that each operation that may come up keeps -/
theorem anyH_inv {P : Program} {md : Region.Mode} {ops : Array Oper} {Q : Exit → Act → World → Prop} {S : World → Prop} (m : Nat) (I : Nat → Array Bool → Act → World → Prop)
    (h0 : ∀ listed a w, I 0 listed a w → wpAnyH P md ops Q S m listed a w)
    (hs : ∀ k listed a w, I (k + 1) listed a w → Region.ready md ops listed ≠ [] ∧ ∀ i ∈ Region.ready md ops listed, wpOp P ops Q i (fun a' w' => S w' ∧ I k (listed.setIfInBounds i true) a' w') a w) :
    ∀ k listed a w, I k listed a w → wpAnyH P md ops Q S (m + k) listed a w
  | 0, listed, a, w, h => h0 listed a w h
  | k + 1, listed, a, w, h => ⟨fun h' => absurd h' (hs k listed a w h).1, fun i hi => wpOp_mono (fun _ _ h' => ⟨h'.1, anyH_inv m I h0 hs k _ _ _ h'.2⟩) ((hs k listed a w h).2 i hi)⟩

theorem info3 : (Tryd.prog.info? 3).map (fun i => (i.zero, i.size, i.bytes)) = some (some (.int .i64 0), 1, 8) := by kernel_rfl

theorem row_full' {w : World} {B g n : Nat} {e : TypeId} {xs : List Value} (h : w.ownsRow B e 1 (.slice (some ⟨g, 0, none⟩) n n) n xs) : w.heap[g]? = some (.cells xs.toArray e (0, 0)) := by
  rcases h.2 with ⟨h0, _⟩ | ⟨g', cap, cur, hv, _, hg, _, _, hs, ht⟩
  · cases h0
  · simp only [Value.slice.injEq, Option.some.injEq, Addr.mk.injEq] at hv
    obtain ⟨⟨rfl, _⟩, _, rfl⟩ := hv
    rw [hg]
    have : cur.toList = xs := by rw [← ht, List.take_of_length_le (by simp; omega)]
    rw [← this]
theorem wpList_run {ops : Array Oper} {rest : List Oper} {o : Oper} {a : Act} {Q : Exit → Act → World → Prop} (t : TypeId) (w w' : World) (v u v' : Value) (hgd : o.guard = none) (s y : Operand)
    (ho : o.op = .call { callee := .builtin .append, args := #[s, y], argTypes := #[t, t] }) (hs : a.eval s = v) (hy : a.eval y = u) (hr : (Builtin.append_ #[t, t] o.type #[v, u]).run Tryd.prog w = .ok v' w') (h : wpList Tryd.prog ops Q rest (a.put o.dst v') w') :
    wpList Tryd.prog ops Q (o :: rest) a w := by
  refine wpList_plain hgd fun K hK => ?_
  unfold Oper.wp execOp
  simp only [ho, resolve, invoke, builtin, Sem.run_bind, Sem.run_pure, Result.andThen_ok, List.map_toArray, List.map_cons, List.map_nil, hs, hy, hr]
  exact hK _ _ h
theorem grown_set (w : World) (g i : Nat) (x : Value) : w.grownBy (w.setCell ⟨g, i, none⟩ x) (some g) :=
  ⟨rfl, rfl, rfl, by rw [World.size_setCell]; exact Nat.le_refl _, fun k _ hne => Below.heap_setCell w _ _ k (fun e => hne (by rw [e]))⟩
theorem info83 : (Tryd.prog.info? 83).map (fun i => (i.zero, i.size, i.bytes)) = some (some (.int .u64 0), 1, 8) := by kernel_rfl
theorem info4 : (Tryd.prog.info? 4).map (fun i => (i.zero, i.size, i.bytes)) = some (some (.bool false), 1, 1) := by kernel_rfl
theorem cells2 {w : World} {p : Nat} {a b : Value} {t : TypeId} {fr : Nat × Nat} (h : w.heap[p]? = some (.cells #[a, b] t fr)) : w.cell? ⟨p, 0, none⟩ = some a ∧ w.cell? ⟨p, 1, none⟩ = some b := by
  refine ⟨?_, ?_⟩
  · rw [cell_at h]; rfl
  · rw [cell_at h]; rfl
theorem keepTy_at {w : World} {p i : Nat} {cs : Array Value} {t0 t : TypeId} {fr : Nat × Nat} (h : w.heap[p]? = some (.cells cs t0 fr)) (ht : t0 ≠ t) (x : Value) : KeepTy w (w.setCell ⟨p, i, none⟩ x) t := by
  intro k cs' fr' hk
  have hne : k ≠ p := by
    rintro rfl
    rw [h] at hk
    simp only [Option.some.injEq, Obj.cells.injEq] at hk
    exact ht hk.2.1
  exact (Below.heap_setCell w ⟨p, i, none⟩ x k hne).trans hk
theorem srcc_one {w : World} {Y : Nat} {z : Int} (h : w.heap[Y]? = some (.cells #[.int .i64 z] 3 (0, 0))) : SrcC w (.slice (some ⟨Y, 0, none⟩) 1 1) 1 1 (intCells [z]) :=
  ⟨rfl, .inr ⟨⟨Y, 0, none⟩, 1, rfl, fun j u hj => by
    have e : w.cell? ((⟨Y, 0, none⟩ : Addr).add j) = w.cell? ⟨Y, j, none⟩ := by rw [Addr.add_lit, Nat.zero_add]
    rw [e, cell_at h]
    simpa [intCells] using hj⟩⟩
theorem get_lt' {α : Type} {l : List α} {k : Nat} {x : α} (h : l[k]? = some x) : k < l.length := (List.getElem?_eq_some_iff.1 h).1
theorem srcc_byte {w : World} {Y x : Nat} (h : w.heap[Y]? = some (.cells #[.int .u8 (x : Nat)] 5 (0, 0))) : SrcC w (.slice (some ⟨Y, 0, none⟩) 1 1) 1 1 (u8s [x]) :=
  ⟨rfl, .inr ⟨⟨Y, 0, none⟩, 1, rfl, fun j u hj => by
    have e : w.cell? ((⟨Y, 0, none⟩ : Addr).add j) = w.cell? ⟨Y, j, none⟩ := by rw [Addr.add_lit, Nat.zero_add]
    rw [e, cell_at h]
    simpa [u8s] using hj⟩⟩
end Go.Proofs.YtmkbbekeimnajaaDoor

/-! Ds3: sets in memory: New, Of -/
namespace Go.Proofs.YtmkbbekeimnajaaDoor
open Go.RowKit Ds
theorem word_none (j : Nat) : word (fun _ => false) j = 0 := (num_ext (x := 0) (by decide) (fun i _ => by simp)).symm
theorem made_wds (k : Nat) : (madeCells #[Value.int IntKind.u64 0] k).toList = wds (fun _ => false) k := by
  apply List.ext_getElem?
  intro j
  by_cases hj : j < k
  · rw [wds_get _ hj, word_none]; simp [madeCells, hj, Nat.mod_one]
  · rw [List.getElem?_eq_none (by simp [madeCells]; omega), List.getElem?_eq_none (by rw [wds_len]; omega)]
theorem cnt_none (n : Nat) : cnt (fun _ => false) n = 0 := by simp [cnt, Ds.mem]
set_option maxRecDepth 100000 in
theorem empty_any (w : World) (n : Nat) (hn : n ≤ 1048576) :
    Calls Tryd.prog 55 #[.int .i64 (n : Nat)] w fun e w' => ∃ S g, e = .returned (.pointer (some ⟨S, 0, none⟩)) ∧ w.heap.size ≤ S ∧ w.heap.size ≤ g ∧ SetAt w' S g (nw n) n (fun _ => false) ∧ Below w.heap.size w w' := by
  obtain ⟨i0, hi, hz0, hz1, hz2⟩ := info_parts info83
  obtain ⟨k, hk⟩ : ∃ k, nw n = k := ⟨_, rfl⟩
  have hkl : k ≤ 16384 := by rw [← hk]; unfold nw; omega
  have hq : ((n : Int) + 63) / 64 = (k : Int) := by rw [← hk]; unfold nw; omega
  have HK := hide hk
  clear hk
  go_enter Tryd.func55, Tryd.ntmps55
  go_wp2_with (at_make; first | refine wpList_make_full _ rfl (.tmp 6) (.tmp 6) 80 rfl w.heap.size 83 i0 (.int .u64 0) 1 Tryd.underlying80 hi hz0 hz1 _ _ _ _ k rfl rfl hq hq ?_ ?_ (Nat.le_refl _) ?_)
  case refine_1 => rw [hz2]; omega
  case refine_2 => unfold maxLen; omega
  intro w1 hown hg
  have HROW := hide (show w1.heap[w.heap.size]? = some (.cells (wds (fun _ => false) k).toArray 83 (0, 0)) from by rw [← made_wds]; exact row_full' hown)
  have HB1 := hide (show Below w.heap.size w w1 from ⟨hg.os, hg.tape, hg.output, hg.size, fun k hk => hg.block k hk (fun e => by cases e)⟩)
  clear hown hg
  go_wp2_with fail
  go_ret
  have hs1 := HB1.out.size
  refine ⟨w1.heap.size, w.heap.size, rfl, hs1, Nat.le_refl _, ⟨?_, ⟨_, heap_old HROW.out _, ?_, ?_⟩, ⟨Nat.le_refl _, by rw [HK.out]; omega⟩, fun _ _ => rfl, hn⟩, HB1.out.alloc hs1 _⟩
  · rw [heap_new rfl, cnt_none, HK.out]; rfl
  · rw [HK.out]; simp [wds_len]
  · rw [HK.out, List.toList_toArray, List.take_of_length_le (by rw [wds_len]; omega)]
set_option maxRecDepth 100000 in
theorem new_ok (w : World) (n : Nat) (hn : n ≤ 1048576) :
    Calls Tryd.prog 36 #[.int .i64 (n : Nat)] w fun e w' => ∃ S g, e = .returned (.tuple #[.pointer (some ⟨S, 0, none⟩), .nilIface]) ∧ w.heap.size ≤ S ∧ w.heap.size ≤ g ∧ SetAt w' S g (nw n) n (fun _ => false) ∧ Below w.heap.size w w' := by
  have h1 : ¬ (n : Int) < 0 := by omega
  have h2 : ¬ (1048576 : Int) < (n : Int) := by omega
  have HEM := hide (empty_any w n hn)
  go_enter Tryd.func36, Tryd.ntmps36
  go_wp2_with fail
  refine HEM.out.mono ?_
  rintro e w1 ⟨S, g, rfl, hS, hg, hs, hb⟩
  have HS := hide hs
  have HB := hide hb
  clear hs hb
  go_wp2_with fail
  go_ret2
  exact ⟨S, g, rfl, hS, hg, HS.out, HB.out⟩
set_option maxRecDepth 100000 in
theorem new_bad (w : World) (n : Int) (hn : n < 0 ∨ 1048576 < n) (a : Addr) (hE : ErrAt w 0 a) :
    Calls Tryd.prog 36 #[.int .i64 n] w fun e w' => e = .returned (.tuple #[.pointer none, .iface 153 (.pointer (some a))]) ∧ ∃ q, w' = w.drewN q := by
  unfold ErrAt at hE
  by_cases h0 : n < 0
  · clear hn
    go_enter Tryd.func36, Tryd.ntmps36
    go_wp2_with fail
    go_quiet (fail)
    go_wp2_with fail
    go_ret2
    exact ⟨rfl, _, rfl⟩
  · have h1 : (1048576 : Int) < n := by omega
    clear hn
    go_enter Tryd.func36, Tryd.ntmps36
    go_wp2_with fail
    go_quiet (fail)
    go_wp2_with fail
    go_ret2
    exact ⟨rfl, _, rfl⟩
/-- the members of a list -/
def mOf (zs : List Int) : Nat → Bool := fun i => decide ((i : Int) ∈ zs)
theorem mOf_nil : mOf [] = fun _ => false := by funext i; simp [mOf]
theorem mOf_snoc (zs : List Int) (i : Nat) : mOf (zs ++ [(i : Int)]) = put (mOf zs) i true := by
  funext k
  unfold mOf put
  by_cases h : k = i
  · subst h; simp
  · rw [if_neg h]; simp [show ¬ (k : Int) = (i : Int) by omega]
theorem put_same {m : Nat → Bool} {i : Nat} {b : Bool} (h : m i = b) : put m i b = m := by
  funext k
  unfold put
  split
  · rename_i e; rw [e, h]
  · rfl
/-- what Of answers -/
def OfOut (n : Int) (zs : List Int) (a : Addr) (B : Nat) (e : Ending) (w' : World) : Prop :=
  (∃ (N S g cap : Nat), n = (N : Int) ∧ N ≤ 1048576 ∧ (∀ z ∈ zs, 0 ≤ z ∧ z < n) ∧ e = .returned (.tuple #[.pointer (some ⟨S, 0, none⟩), .nilIface]) ∧ B ≤ S ∧ B ≤ g ∧ SetAt w' S g cap N (mOf zs)) ∨
  ((¬ (0 ≤ n ∧ n ≤ 1048576 ∧ ∀ z ∈ zs, 0 ≤ z ∧ z < n)) ∧ e = .returned (.tuple #[.pointer none, .iface 153 (.pointer (some a))]))
set_option maxRecDepth 100000 in
set_option maxHeartbeats 2000000 in
theorem of_any (w : World) (n : Int) (ao : Option Addr) (c : Nat) (zs : List Int) (hz : Ints w (.slice ao zs.length c) zs) (hl : zs.length ≤ 1152921504606846976) (a : Addr) (hE : ErrAt w 0 a) (hg : 0 < w.heap.size) :
    Calls Tryd.prog 12 #[.int .i64 n, .slice ao zs.length c] w fun e w' => OfOut n zs a w.heap.size e w' ∧ Below w.heap.size w w' := by
  have HZ := hide hz
  have HE := hide hE
  clear hz hE
  by_cases hn : 0 ≤ n ∧ n ≤ 1048576
  · obtain ⟨N, rfl⟩ : ∃ N : Nat, n = (N : Int) := ⟨n.toNat, by omega⟩
    have hN : N ≤ 1048576 := by omega
    have HNW := hide (new_ok w N hN)
    clear hn
    go_enter Tryd.func12, Tryd.ntmps12
    go_wp2_with fail
    refine HNW.out.mono ?_
    rintro e w1 ⟨S, g, rfl, hS, hgg, hs, hb⟩
    have HS := hide hs
    have HB := hide hb
    have hs1 := hb.size
    clear hs hb HNW
    go_wp2_with fail
    go_loopw [22] (fun k wr => ∃ i : Nat, k = .int .i64 (i : Nat) ∧ i ≤ zs.length ∧ (∀ z ∈ zs.take i, 0 ≤ z ∧ z < (N : Int)) ∧ SetAt wr S g (nw N) N (mOf (zs.take i)) ∧ Below w.heap.size w wr) (fun k _ => zs.length - (intOf k).toNat)
    case atStart => exact ⟨0, rfl, by omega, by simp, by rw [List.take_zero, mOf_nil]; exact HS.out, HB.out⟩
    case round =>
      obtain ⟨i, rfl, hi, hr, hst, hb⟩ := hrel
      have HR := hide hr
      have HST := hide hst
      have HBr := hide hb
      clear hr hst hb HS HB
      by_cases hlt : i < zs.length
      · obtain ⟨z, hx⟩ : ∃ z, zs[i]? = some z := ⟨_, List.getElem?_eq_getElem hlt⟩
        obtain ⟨ad, rfl, hc⟩ := ints_get (ints_keep HZ.out HBr.out) hx
        have hi1 : (i : Int) < (zs.length : Int) := by omega
        have HTK := hide (show zs.take (i + 1) = zs.take i ++ [z] from by rw [List.take_add_one, hx]; rfl)
        have HMEM := hide (List.mem_of_getElem? hx)
        clear hx
        by_cases hzr : 0 ≤ z ∧ z < (N : Int)
        · obtain ⟨j, rfl⟩ : ∃ j : Nat, z = (j : Int) := ⟨z.toNat, by omega⟩
          have hjN : j < N := by omega
          have HRN := hide (show ∀ z ∈ zs.take (i + 1), 0 ≤ z ∧ z < (N : Int) from by
            rw [HTK.out]
            intro z hz
            rcases List.mem_append.1 hz with hz | hz
            · exact HR.out z hz
            · simp at hz; subst hz; exact hzr)
          clear hzr
          cases hm : mOf (zs.take i) j with
          | true =>
            have HAD := hide (add_old wr HST.out j hjN hm)
            have HNX := hide (show SetAt wr S g (nw N) N (mOf (zs.take (i + 1))) from by rw [HTK.out, mOf_snoc, put_same hm]; exact HST.out)
            clear hm
            go_wp2_with fail
            refine HAD.out.mono ?_
            rintro e w2 ⟨rfl, rfl⟩
            go_wp2_with fail
            exact ⟨⟨i + 1, by simp, by omega, HRN.out, HNX.out, HBr.out⟩, by simp [intOf]; omega⟩
          | false =>
            have HAD := hide (add_new wr HST.out j hjN hm)
            have HEQ := hide (show put (mOf (zs.take i)) j true = mOf (zs.take (i + 1)) from by rw [HTK.out, mOf_snoc])
            clear hm
            go_wp2_with fail
            refine HAD.out.mono ?_
            rintro e w2 ⟨rfl, hst2, hf2⟩
            rw [HEQ.out] at hst2
            have HST2 := hide hst2
            have HB2 := hide (HBr.out.trans (hf2.below (B := w.heap.size) (fun k hk => by rcases hk with rfl | rfl <;> assumption) HBr.out.size))
            clear hst2 hf2
            go_wp2_with fail
            exact ⟨⟨i + 1, by simp, by omega, HRN.out, HST2.out, HB2.out⟩, by simp [intOf]; omega⟩
        · have HAD := hide (add_out wr HST.out z (by omega) a (err_below HE.out HBr.out hg))
          have HBAD := hide (show ¬ (0 ≤ (N : Int) ∧ (N : Int) ≤ 1048576 ∧ ∀ z ∈ zs, 0 ≤ z ∧ z < (N : Int)) from fun h => hzr (h.2.2 z HMEM.out))
          clear hzr
          go_wp2_with fail
          refine HAD.out.mono ?_
          rintro e w2 ⟨rfl, q, rfl⟩
          go_wp2_with fail
          go_ret2
          exact ⟨.inr ⟨HBAD.out, rfl⟩, below_drewN HBr.out q⟩
      · obtain rfl : i = zs.length := by omega
        go_wp2_with fail
        go_ret2
        refine ⟨.inl ⟨N, S, g, nw N, rfl, hN, ?_, rfl, hS, hgg, ?_⟩, HBr.out⟩
        · have := HR.out; rwa [List.take_length] at this
        · have := HST.out; rwa [List.take_length] at this
  · have HNW := hide (new_bad w n (by omega) a HE.out)
    have HBAD := hide (show ¬ (0 ≤ n ∧ n ≤ 1048576 ∧ ∀ z ∈ zs, 0 ≤ z ∧ z < n) from fun h => hn ⟨h.1, h.2.1⟩)
    clear hn
    go_enter Tryd.func12, Tryd.ntmps12
    go_wp2_with fail
    refine HNW.out.mono ?_
    rintro e w1 ⟨rfl, q, rfl⟩
    go_wp2_with fail
    go_ret2
    exact ⟨.inr ⟨HBAD.out, rfl⟩, below_drewN (Below.refl _ _) q⟩
end Go.Proofs.YtmkbbekeimnajaaDoor

/-! Tz: the lowest one of a word; counts, sizes -/
namespace Go.Proofs.YtmkbbekeimnajaaDoor
open Go.RowKit Ds
/-- the library's table lies in its variable -/
def DeBr (w : World) : Prop := ∀ j, j < 64 → w.cell? ⟨15, j, none⟩ = some (.int .u8 (Go.Lib.deBruijn64tab.getD j 0 : Nat))
theorem debr_below {B : Nat} {w w' : World} (h : DeBr w) (hb : Below B w w') (hB : 15 < B) : DeBr w' := fun j hj => (hb.cell (p := ⟨15, j, none⟩) hB).trans (h j hj)
theorem low_key (x a : Nat) (hx : x < 18446744073709551616) (hx0 : x ≠ 0) (hlow : x &&& (18446744073709551616 - x) = a) :
    IntKind.u64.wrap (bits .and .u64 (x : Int) (IntKind.u64.wrap (-(x : Int))) * 285870213051353865) / 288230376151711744 = ((a * 285870213051353865 % 18446744073709551616 / 288230376151711744 : Nat) : Int) := by
  have e1 : IntKind.u64.wrap (-(x : Int)) = ((18446744073709551616 - x : Nat) : Int) := by rw [IntKind.wrap_u64]; omega
  rw [e1, bits_and_u64_nat x _ hx (by omega), hlow, IntKind.wrap_u64]
  omega
set_option maxRecDepth 100000 in
theorem ctz_any (w : World) (x : Nat) (hx : x < 18446744073709551616) (hx0 : x ≠ 0) (hT : DeBr w) :
    Calls Tryd.prog 46 #[.int .u64 (x : Nat)] w fun e w' => e = .returned (.int .i64 (Go.Lib.ctz 64 x : Nat)) ∧ w = w' := by
  obtain ⟨hlow, hk⟩ := Go.Lib.lowest_bit 64 x hx0 hx
  obtain ⟨hi, htab⟩ := Go.Lib.deBruijn64_at _ hk
  have key := low_key x _ hx hx0 hlow
  have hx0i : ((x : Int) == 0) = false := by simp; omega
  obtain ⟨k, hkk⟩ : ∃ k, Go.Lib.ctz 64 x = k := ⟨_, rfl⟩
  rw [hkk] at key hk hi htab ⊢
  obtain ⟨idx, hidx⟩ : ∃ idx, 2 ^ k * 285870213051353865 % 18446744073709551616 / 288230376151711744 = idx := ⟨_, rfl⟩
  rw [hidx] at key hi htab
  have hcell := hT idx hi
  rw [htab] at hcell
  clear hlow hkk hidx htab hT hx hx0
  go_enter Tryd.func46, Tryd.ntmps46
  go_wp2_with (simp only [key])
  go_ret
  exact ⟨rfl, rfl⟩
set_option maxRecDepth 100000 in
theorem len_any (w : World) {S g cap n : Nat} {m : Nat → Bool} (h : SetAt w S g cap n m) :
    Calls Tryd.prog 32 #[.pointer (some ⟨S, 0, none⟩)] w fun e w' => e = .returned (.int .i64 (n : Nat)) ∧ w = w' := by
  obtain ⟨c0, c1, c2⟩ := cells3 h.hd
  clear h
  go_enter Tryd.func32, Tryd.ntmps32
  go_wp2_with fail
  go_ret
  exact ⟨rfl, rfl⟩
set_option maxRecDepth 100000 in
theorem count_any (w : World) {S g cap n : Nat} {m : Nat → Bool} (h : SetAt w S g cap n m) :
    Calls Tryd.prog 17 #[.pointer (some ⟨S, 0, none⟩)] w fun e w' => e = .returned (.int .i64 (cnt m n : Nat)) ∧ w = w' := by
  obtain ⟨c0, c1, c2⟩ := cells3 h.hd
  clear h
  go_enter Tryd.func17, Tryd.ntmps17
  go_wp2_with fail
  go_ret
  exact ⟨rfl, rfl⟩
end Go.Proofs.YtmkbbekeimnajaaDoor

/-! Nx: the next member -/
namespace Go.Proofs.YtmkbbekeimnajaaDoor
open Go.RowKit Ds
/-- from i on, word q -/
def fromQ (m : Nat → Bool) (i q : Nat) : Nat → Bool := fun k => decide (i ≤ 64 * q + k) && m (64 * q + k)
theorem fromQ_start (m : Nat → Bool) (i : Nat) : word m (i / 64) / 2 ^ (i % 64) * 2 ^ (i % 64) = num 64 (fromQ m i (i / 64)) := by
  unfold word
  rw [shr_shl]
  refine num_congr fun k hk => ?_
  unfold fromQ
  have : decide (i % 64 ≤ k) = decide (i ≤ 64 * (i / 64) + k) := by
    by_cases h : i % 64 ≤ k
    · rw [decide_eq_true h, decide_eq_true (by omega)]
    · rw [decide_eq_false h, decide_eq_false (by omega)]
  rw [this]
theorem fromQ_word (m : Nat → Bool) {i q : Nat} (h : i ≤ 64 * q) : word m q = num 64 (fromQ m i q) := by
  unfold word
  refine num_congr fun k hk => ?_
  unfold fromQ
  rw [decide_eq_true (by omega), Bool.true_and]
def NextOut (m : Nat → Bool) (n : Nat) (i : Nat) (e : Ending) : Prop :=
  match next m n i with
  | some k => e = .returned (.tuple #[.int .i64 (k : Nat), .bool true])
  | none => e = .returned (.tuple #[.int .i64 0, .bool false])
theorem num_lt' (f : Nat → Bool) : num 64 f < 18446744073709551616 := num_lt 64 f
set_option maxRecDepth 100000 in
set_option maxHeartbeats 2000000 in
theorem next_in (w : World) {S g cap n : Nat} {m : Nat → Bool} (h : SetAt w S g cap n m) (hT : DeBr w) (i0 : Int) (i : Nat) (hi0 : (if i0 < 0 then 0 else i0) = (i : Int)) (hi : i < n) :
    Calls Tryd.prog 21 #[.pointer (some ⟨S, 0, none⟩), .int .i64 i0] w fun e w' => NextOut m n i e ∧ w = w' := by
  obtain ⟨c0, c1, c2⟩ := cells3 h.hd
  have hsm := h.small
  have HS := hide h
  have HT := hide hT
  have hcap := h.cap
  have hnw := nw_le h
  have hr64 : i % 64 < 64 := Nat.mod_lt _ (by omega)
  have hqn : i / 64 < nw n := by unfold nw; omega
  have hcw := h.cell hqn
  have hst := fromQ_start m i
  have hlt := num_lt' (fromQ m i (i / 64))
  have hsh : IntKind.u64.wrap ((word m (i / 64) : Int) / 2 ^ (i % 64) * 2 ^ (i % 64)) = ((num 64 (fromQ m i (i / 64)) : Nat) : Int) := by
    rw [← hst] at hlt ⊢
    have e1 : ((word m (i / 64) : Nat) : Int) / 2 ^ (i % 64) * 2 ^ (i % 64) = ((word m (i / 64) / 2 ^ (i % 64) * 2 ^ (i % 64) : Nat) : Int) := by
      rw [Int.natCast_mul, Int.natCast_ediv, Int.natCast_pow]; rfl
    rw [e1, IntKind.wrap_u64]
    generalize word m (i / 64) / 2 ^ (i % 64) * 2 ^ (i % 64) = y at hlt ⊢
    omega
  obtain ⟨q, hq⟩ : ∃ q, i / 64 = q := ⟨_, rfl⟩
  obtain ⟨r, hr⟩ : ∃ r, i % 64 = r := ⟨_, rfl⟩
  rw [hq] at hqn hcw hsh
  rw [hr] at hr64 hsh
  have hqi : (i : Int) / 64 = (q : Int) := by omega
  have hri : (i : Int) % 64 = (r : Int) := by omega
  have hin : ¬ (n : Int) ≤ (i : Int) := by omega
  have HQ := hide (show 64 * q ≤ i by omega)
  have HQN := hide hqn
  have HQ2 := hide (show i < 64 * (q + 1) by omega)
  clear hq hr h hT hst hlt
  go_enter Tryd.func21, Tryd.ntmps21
  go_wp2_with fail
  clear hcw hsh hqn hqi hri hr64 hi0 hin
  go_loop [6, 7] (fun x a => ∃ q : Nat, x = .int .u64 (num 64 (fromQ m i q) : Nat) ∧ a = .int .i64 (q : Nat) ∧ q < nw n ∧ i < 64 * (q + 1) ∧ ∀ j, i ≤ j → j < 64 * q → m j = false) (fun _ a => nw n - (intOf a).toNat)
  case atStart => exact ⟨q, rfl, rfl, HQN.out, HQ2.out, fun j h1 h2 => by have := HQ.out; omega⟩
  case round =>
    obtain ⟨q, rfl, rfl, hq, hiq, hno⟩ := hrel
    have HNO := hide hno
    have hlt := num_lt' (fromQ m i q)
    clear hno HQ HQN HQ2
    by_cases hx : num 64 (fromQ m i q) = 0
    · have hz := num_zero hx
      have HNO2 := hide (show ∀ j, i ≤ j → j < 64 * (q + 1) → m j = false from fun j h1 h2 => by
        by_cases h3 : j < 64 * q
        · exact HNO.out j h1 h3
        · have h4 := hz (j - 64 * q) (by omega)
          unfold fromQ at h4
          rw [show 64 * q + (j - 64 * q) = j by omega, decide_eq_true h1, Bool.true_and] at h4
          exact h4)
      have hxi : ((num 64 (fromQ m i q) : Nat) : Int) = 0 := by omega
      have hw1 : IntKind.i64.wrap ((q : Int) + 1) = (q : Int) + 1 := by rw [IntKind.wrap_i64]; omega
      clear hz hx hlt HNO
      rw [hxi]
      clear hxi
      by_cases hqe : q + 1 = nw n
      · have hei : (((q : Int) + 1) == (nw n : Int)) = true := by simp; omega
        have HN := hide (show next m n i = none from next_none fun j h1 h2 => HNO2.out j h1 (by rw [hqe]; unfold nw; omega))
        clear hqe
        go_wp2_with fail
        go_ret2
        exact ⟨by unfold NextOut; rw [HN.out]; rfl, rfl⟩
      · have hei : (((q : Int) + 1) == (nw n : Int)) = false := by simp; omega
        have hcw := HS.out.cell (show q + 1 < nw n by omega)
        have hfw := fromQ_word m (show i ≤ 64 * (q + 1) by omega)
        rw [hfw] at hcw
        have hqc : ((q : Int) + 1) < (nw n : Int) := by omega
        have HLT := hide (show q + 1 < nw n by omega)
        clear hqe hfw
        go_wp2_with fail
        exact ⟨⟨q + 1, rfl, by simp, HLT.out, by omega, HNO2.out⟩, by simp [intOf]; omega⟩
    · have hxi : (((num 64 (fromQ m i q) : Nat) : Int) == 0) = false := by simp; omega
      obtain ⟨t, ht, hft, hlo, hct⟩ := low_of (fromQ m i q) hx
      have HC := hide (ctz_any w _ hlt hx HT.out)
      rw [hct] at HC
      unfold fromQ at hft
      rw [Bool.and_eq_true] at hft
      have hkn : 64 * q + t < n := by
        by_cases h : 64 * q + t < n
        · exact h
        · have := HS.out.off (64 * q + t) (by omega)
          rw [this] at hft
          cases hft.2
      have HN := hide (show next m n i = some (64 * q + t) from next_some (of_decide_eq_true hft.1) hkn hft.2 fun j h1 h2 => by
        by_cases h3 : j < 64 * q
        · exact HNO.out j h1 h3
        · have h4 := hlo (j - 64 * q) (by omega)
          unfold fromQ at h4
          rw [show 64 * q + (j - 64 * q) = j by omega, decide_eq_true h1, Bool.true_and] at h4
          exact h4)
      have hw1 : IntKind.i64.wrap (64 * (q : Int)) = 64 * (q : Int) := by rw [IntKind.wrap_i64]; omega
      have hw2 : IntKind.i64.wrap (64 * (q : Int) + (t : Int)) = 64 * (q : Int) + (t : Int) := by rw [IntKind.wrap_i64]; omega
      clear hx hft hlo hct
      go_wp2_with fail
      refine HC.out.mono ?_
      rintro e wz ⟨rfl, rfl⟩
      go_wp2_with fail
      go_ret2
      refine ⟨?_, rfl⟩
      unfold NextOut
      rw [HN.out]
      simp
set_option maxRecDepth 100000 in
theorem next_any (w : World) {S g cap n : Nat} {m : Nat → Bool} (h : SetAt w S g cap n m) (hT : DeBr w) (i : Int) :
    Calls Tryd.prog 21 #[.pointer (some ⟨S, 0, none⟩), .int .i64 i] w fun e w' => NextOut m n i.toNat e ∧ w = w' := by
  by_cases hi : i.toNat < n
  · refine next_in w h hT i i.toNat ?_ hi
    split <;> omega
  · obtain ⟨c0, c1, c2⟩ := cells3 h.hd
    have HN := hide (show next m n i.toNat = none from next_none fun j h1 h2 => absurd h2 (by omega))
    by_cases h0 : i < 0
    · have hmx : (if i < 0 then 0 else i) = (0 : Int) := by rw [if_pos h0]
      have hn : ((n : Nat) : Int) ≤ 0 := by omega
      clear hi h0 h hT
      go_enter Tryd.func21, Tryd.ntmps21
      go_wp2_with fail
      go_ret2
      exact ⟨by unfold NextOut; rw [HN.out]; rfl, rfl⟩
    · have hmx : (if i < 0 then 0 else i) = i := by rw [if_neg h0]
      have hn : ((n : Nat) : Int) ≤ i := by omega
      clear hi h hT
      go_enter Tryd.func21, Tryd.ntmps21
      go_wp2_with fail
      go_ret2
      exact ⟨by unfold NextOut; rw [HN.out]; rfl, rfl⟩
end Go.Proofs.YtmkbbekeimnajaaDoor

/-! Mb: the members as a list -/
namespace Go.Proofs.YtmkbbekeimnajaaDoor
open Go.RowKit Ds
theorem next_eq (m : Nat → Bool) (n i : Nat) : next m n i = (Ds.mem m n)[cnt m i]? := by
  by_cases h : i ≤ n
  · have e : List.range n = List.range i ++ (List.range n).drop i := by
      conv => lhs; rw [← List.take_append_drop i (List.range n), List.take_range, Nat.min_eq_left h]
    unfold next Ds.mem
    conv => rhs; rw [e, List.filter_append]
    rw [List.getElem?_append_right (by unfold cnt Ds.mem; exact Nat.le_refl _)]
    have : cnt m i - (List.filter m (List.range i)).length = 0 := by unfold cnt Ds.mem; omega
    rw [this, ← List.head?_eq_getElem?, List.head?_filter]
  · have h1 := cnt_mono m (a := n) (b := i) (by omega)
    rw [next_none (fun j h1 h2 => absurd h2 (by omega)), List.getElem?_eq_none (by unfold cnt at h1; exact h1)]
def mI (m : Nat → Bool) (n : Nat) : List Int := (Ds.mem m n).map Int.ofNat
theorem mI_len (m : Nat → Bool) (n : Nat) : (mI m n).length = cnt m n := by simp [mI, cnt]
def AtK (m : Nat → Bool) (n k : Nat) (a b : Value) : Prop :=
  match (Ds.mem m n)[k]? with
  | some x => a = .int .i64 (x : Nat) ∧ b = .bool true
  | none => a = .int .i64 0 ∧ b = .bool false
theorem next_at {m : Nat → Bool} {n i : Nat} {e : Ending} (h : NextOut m n i e) : ∃ a b, e = .returned (.tuple #[a, b]) ∧ AtK m n (cnt m i) a b := by
  unfold NextOut at h
  unfold AtK
  rw [next_eq] at h
  cases hk : (Ds.mem m n)[cnt m i]? with
  | none => rw [hk] at h; exact ⟨_, _, h, rfl, rfl⟩
  | some x => rw [hk] at h; exact ⟨_, _, h, rfl, rfl⟩
theorem mem_at {m : Nat → Bool} {n k x : Nat} (h : (Ds.mem m n)[k]? = some x) : x < n ∧ cnt m (x + 1) = k + 1 ∧ (mI m n).take (k + 1) = (mI m n).take k ++ [(x : Int)] := by
  obtain ⟨h1, h2, h3⟩ := (mem_get m n k x).1 h
  refine ⟨h1, by rw [cnt_succ, if_pos h2, h3], ?_⟩
  unfold mI
  rw [List.take_add_one, List.getElem?_map, h]
  rfl
set_option maxRecDepth 100000 in
set_option maxHeartbeats 2000000 in
theorem members_any (w : World) {S g cap n : Nat} {m : Nat → Bool} (h : SetAt w S g cap n m) (hT : DeBr w) (hg : 15 < w.heap.size) :
    Calls Tryd.prog 13 #[.pointer (some ⟨S, 0, none⟩)] w fun e w' => ∃ v, e = .returned v ∧ w'.ownsRow w.heap.size 3 1 v (cnt m n) (intCells (mI m n)) ∧ Below w.heap.size w w' := by
  obtain ⟨c0, c1, c2⟩ := cells3 h.hd
  have hsm := h.small
  have HS := hide h
  have HT := hide hT
  have hcn : cnt m n ≤ n := cnt_le m n
  obtain ⟨i0, hi, hz0, hz1, hz2⟩ := info_parts info3
  clear h hT
  go_enter Tryd.func13, Tryd.ntmps13
  go_wp2_with (first | (at_make; refine wpList_make_own _ rfl _ _ 22 rfl w.heap.size 3 i0 (.int .i64 0) 1 Tryd.underlying22 hi hz0 hz1 _ _ _ (cnt m n) rfl rfl ?_ ?_ ?_ (Nat.le_refl _) ?_))
  · omega
  · rw [hz2]; omega
  · simp only [maxLen]; omega
  intro w1 ho1 hg1
  have HB1 := hide (show Below w.heap.size w w1 from ⟨hg1.os, hg1.tape, hg1.output, hg1.size, fun k hk => hg1.block k hk (by simp)⟩)
  have HO1 := hide ho1
  clear ho1 hg1 c0 c1 c2
  go_wp2_with fail
  refine (next_any w1 (HS.out.keep HB1.out) (debr_below HT.out HB1.out hg) 0).mono ?_
  rintro e wz ⟨hno, rfl⟩
  obtain ⟨a, b, rfl, hat⟩ := next_at hno
  have HAT := hide (show AtK m n 0 a b from by simpa [cnt, Ds.mem] using hat)
  clear hno hat
  go_wp2_with fail
  go_loopw [3, 4, 5] (fun v a b wr => ∃ k, wr.ownsRow w.heap.size 3 1 v k (intCells ((mI m n).take k)) ∧ k ≤ cnt m n ∧ AtK m n k a b ∧ Below w.heap.size w wr) (fun v _ _ _ => cnt m n - (match v with | .slice _ k _ => k | _ => 0))
  case atStart => exact ⟨0, HO1.out, Nat.zero_le _, HAT.out, HB1.out⟩
  case round =>
    obtain ⟨k, hown, hk, hat, hb⟩ := hrel
    have HOW := hide hown
    have HBr := hide hb
    obtain ⟨vo, vc, rfl⟩ := row_shape hown
    have hsr := hb.size
    clear hown hb HO1 HB1 HAT
    unfold AtK at hat
    cases hx : (Ds.mem m n)[k]? with
    | none =>
      rw [hx] at hat
      obtain ⟨rfl, rfl⟩ := hat
      have hke : cnt m n ≤ k := by
        have := List.getElem?_eq_none_iff.1 hx
        exact this
      have hkk : k = cnt m n := by omega
      have HKK := hide hkk
      clear hx hkk hke
      go_wp2_with fail
      go_ret
      refine ⟨_, rfl, ?_, HBr.out⟩
      have := HOW.out
      rw [HKK.out, List.take_of_length_le (by rw [mI_len]; exact Nat.le_refl _)] at this
      rw [HKK.out]
      exact this
    | some x =>
      rw [hx] at hat
      obtain ⟨rfl, rfl⟩ := hat
      obtain ⟨hxn, hc1, htk⟩ := mem_at hx
      have hkl : k < cnt m n := get_lt' hx
      obtain ⟨v6, w6, k1, k2, k3, k4⟩ := run_row (wr.alloc (.cells #[.int .i64 (x : Nat)] 3)) w.heap.size 22 22 3 i0 _ 1 8 Tryd.underlying22 hi hz0 hz1 hz2 rfl (by decide) (.slice vo k vc) (.slice (some ⟨wr.heap.size, 0, none⟩) 1 1) k 1 (intCells ((mI m n).take k)) (intCells [(x : Int)]) (World.ownsRow.alloc HOW.out _) (srcc_one (heap_new rfl _)) (intCells_one _) (by simp only [maxLen]; omega) (by omega) (by rw [World.size_alloc]; omega)
      obtain ⟨vo6, vc6, rfl⟩ := row_shape k2
      have HR6 := hide k1
      have HB6 := hide (show Below w.heap.size w w6 from (HBr.out.alloc hsr _).grown k3 (by rw [World.size_alloc]; omega) (fun j hj => (World.ownsRow.lt HOW.out j hj).1))
      have HO6 := hide (show w6.ownsRow w.heap.size 3 1 (.slice vo6 (k + 1) vc6) (k + 1) (intCells ((mI m n).take (k + 1))) from by rw [htk]; simpa [intCells] using k2)
      have hs6 := HB6.out.size
      have HC1 := hide hc1
      have hwx : IntKind.i64.wrap ((x : Int) + 1) = (x : Int) + 1 := by rw [IntKind.wrap_i64]; omega
      clear k1 k2 k3 k4 htk hc1 hx
      go_wp2_with (at_builtin; refine wpList_run 22 _ w6 _ _ _ rfl (.tmp 24) (.tmp 26) rfl rfl rfl HR6.out ?_)
      go_wp2_with fail
      refine (next_any w6 (HS.out.keep HB6.out) (debr_below HT.out HB6.out hg) ((x : Int) + 1)).mono ?_
      rintro e wz ⟨hno, rfl⟩
      obtain ⟨a, b, rfl, hat⟩ := next_at hno
      have HAT := hide (show AtK m n (k + 1) a b from by
        rw [show ((x : Int) + 1).toNat = x + 1 by omega, HC1.out] at hat
        exact hat)
      clear hno hat
      go_wp2_with fail
      exact ⟨⟨k + 1, HO6.out, by omega, HAT.out, HB6.out⟩, by simp; omega⟩
end Go.Proofs.YtmkbbekeimnajaaDoor
