/- sets in memory: Add, Remove, New, Clone -/
import Derived.Test.YtmkbbekeimnajaaDoorDs
namespace Go.Proofs.YtmkbbekeimnajaaDoor
open Go.RowKit Ds
set_option maxRecDepth 100000 in
theorem add_old (w : World) {S g cap n : Nat} {m : Nat → Bool} (h : SetAt w S g cap n m) (i : Nat) (hi : i < n) (hm : m i = true) :
    Calls Tryd.prog 16 #[.pointer (some ⟨S, 0, none⟩), .int .i64 (i : Nat)] w fun e w' => e = .returned (.tuple #[.bool false, .nilIface]) ∧ w = w' := by
  have HIN := hide (inside_yes w h i hi)
  have HHA := hide (has_in w h i hi)
  rw [hm] at HHA
  clear hm h
  go_enter Tryd.func16, Tryd.ntmps16
  go_wp2_with fail
  refine HIN.out.mono ?_
  rintro e wz ⟨rfl, rfl⟩
  go_wp2_with fail
  refine HHA.out.mono ?_
  rintro e wz ⟨rfl, rfl⟩
  go_wp2_with fail
  go_ret2
  exact ⟨rfl, rfl⟩
set_option maxRecDepth 100000 in
theorem add_out (w : World) {S g cap n : Nat} {m : Nat → Bool} (h : SetAt w S g cap n m) (i : Int) (hi : i < 0 ∨ n ≤ i) (a : Addr) (hE : ErrAt w 0 a) :
    Calls Tryd.prog 16 #[.pointer (some ⟨S, 0, none⟩), .int .i64 i] w fun e w' => e = .returned (.tuple #[.bool false, .iface 153 (.pointer (some a))]) ∧ ∃ q, w' = w.drewN q := by
  have HIN := hide (inside_no w h i hi)
  unfold ErrAt at hE
  clear hi h
  go_enter Tryd.func16, Tryd.ntmps16
  go_wp2_with fail
  refine HIN.out.mono ?_
  rintro e wz ⟨rfl, rfl⟩
  go_wp2_with fail
  go_quiet (fail)
  go_wp2_with fail
  go_ret2
  exact ⟨rfl, _, rfl⟩
set_option maxRecDepth 100000 in
theorem rem_old (w : World) {S g cap n : Nat} {m : Nat → Bool} (h : SetAt w S g cap n m) (i : Nat) (hi : i < n) (hm : m i = false) :
    Calls Tryd.prog 15 #[.pointer (some ⟨S, 0, none⟩), .int .i64 (i : Nat)] w fun e w' => e = .returned (.tuple #[.bool false, .nilIface]) ∧ w = w' := by
  have HIN := hide (inside_yes w h i hi)
  have HHA := hide (has_in w h i hi)
  rw [hm] at HHA
  clear hm h
  go_enter Tryd.func15, Tryd.ntmps15
  go_wp2_with fail
  refine HIN.out.mono ?_
  rintro e wz ⟨rfl, rfl⟩
  go_wp2_with fail
  refine HHA.out.mono ?_
  rintro e wz ⟨rfl, rfl⟩
  go_wp2_with fail
  go_ret2
  exact ⟨rfl, rfl⟩
set_option maxRecDepth 100000 in
theorem rem_out (w : World) {S g cap n : Nat} {m : Nat → Bool} (h : SetAt w S g cap n m) (i : Int) (hi : i < 0 ∨ n ≤ i) (a : Addr) (hE : ErrAt w 0 a) :
    Calls Tryd.prog 15 #[.pointer (some ⟨S, 0, none⟩), .int .i64 i] w fun e w' => e = .returned (.tuple #[.bool false, .iface 153 (.pointer (some a))]) ∧ ∃ q, w' = w.drewN q := by
  have HIN := hide (inside_no w h i hi)
  unfold ErrAt at hE
  clear hi h
  go_enter Tryd.func15, Tryd.ntmps15
  go_wp2_with fail
  refine HIN.out.mono ?_
  rintro e wz ⟨rfl, rfl⟩
  go_wp2_with fail
  go_quiet (fail)
  go_wp2_with fail
  go_ret2
  exact ⟨rfl, _, rfl⟩
theorem word_rem (m : Nat → Bool) (i : Nat) : (BitVec.ofNat 64 (word m (i / 64)) &&& ~~~(BitVec.ofNat 64 (2 ^ (i % 64)))).toNat = word (put m i false) (i / 64) := by
  refine num_ext (BitVec.isLt _) fun k hk => ?_
  rw [BitVec.testBit_toNat, BitVec.getLsbD_and, BitVec.getLsbD_not, BitVec.getLsbD_ofNat, BitVec.getLsbD_ofNat, word_bit, Nat.testBit_two_pow]
  unfold put
  by_cases h : i % 64 = k
  · rw [if_pos (by omega)]; simp [h, hk]
  · rw [if_neg (by omega)]; simp [h, hk]
theorem not_bit (m : Nat → Bool) (i : Nat) : bits .andNot .u64 ((word m (i / 64) : Nat) : Int) (IntKind.u64.wrap (2 ^ (i % 64))) = ((word (put m i false) (i / 64) : Nat) : Int) := by
  have hw := word_lt' (put m i false) (i / 64)
  have hp : 2 ^ (i % 64) < 2 ^ 64 := Nat.pow_lt_pow_right (by omega) (Nat.mod_lt _ (by omega))
  have e1 : IntKind.u64.wrap ((2 : Int) ^ (i % 64)) = ((2 ^ (i % 64) : Nat) : Int) := by
    have e2 : (2 : Int) ^ (i % 64) = ((2 ^ (i % 64) : Nat) : Int) := by rw [Int.natCast_pow]; rfl
    rw [IntKind.wrap_u64, e2]
    generalize 2 ^ (i % 64) = p at hp ⊢
    omega
  rw [e1]
  have hx := word_rem m i
  show IntKind.u64.wrap ((BitVec.ofInt 64 ((word m (i / 64) : Nat) : Int) &&& ~~~(BitVec.ofInt 64 ((2 ^ (i % 64) : Nat) : Int))).toNat : Int) = _
  rw [BitVec.ofInt_natCast, BitVec.ofInt_natCast, hx, IntKind.wrap_u64]
  omega
set_option maxRecDepth 100000 in
theorem rem_new (w : World) {S g cap n : Nat} {m : Nat → Bool} (h : SetAt w S g cap n m) (i : Nat) (hi : i < n) (hm : m i = true) :
    Calls Tryd.prog 15 #[.pointer (some ⟨S, 0, none⟩), .int .i64 (i : Nat)] w fun e w' => e = .returned (.tuple #[.bool true, .nilIface]) ∧ SetAt w' S g cap n (put m i false) ∧ Foot w w' (fun k => k = S ∨ k = g) := by
  obtain ⟨c0, c1, c2⟩ := cells3 h.hd
  have hsm := h.small
  have HIN := hide (inside_yes w h i hi)
  have HHA := hide (has_in w h i hi)
  rw [hm] at HHA
  have HS := hide h
  obtain ⟨q, hq⟩ : ∃ q, i / 64 = q := ⟨_, rfl⟩
  obtain ⟨r, hr⟩ : ∃ r, i % 64 = r := ⟨_, rfl⟩
  have hcw := h.cell (j := q) (by unfold nw; omega)
  have hqn : q < nw n := by unfold nw; omega
  have hcap := h.cap
  have hnw := nw_le h
  have hr64 : r < 64 := by omega
  have hqi : (i : Int) / 64 = (q : Int) := by omega
  have hri : (i : Int) % 64 = (r : Int) := by omega
  have HQ := hide (And.intro hq hr)
  have HM := hide hm
  have hf := h.free q
  have hfS := free_at h.hd 1
  have hcn : cnt m n ≤ n := cnt_le m n
  have hcq := cnt_put m i false n
  rw [hm] at hcq
  simp [hi] at hcq
  have hc1 : 1 ≤ cnt m n := by omega
  have HCQ := hide hcq
  have hO := not_bit m i
  rw [hq, hr] at hO
  clear hq hr hm h hcq
  go_enter Tryd.func15, Tryd.ntmps15
  go_wp2_with fail
  refine HIN.out.mono ?_
  rintro e wz ⟨rfl, rfl⟩
  go_wp2_with fail
  refine HHA.out.mono ?_
  rintro e wz ⟨rfl, rfl⟩
  go_wp2_with fail
  go_region
  obtain ⟨hS1, hW1, hF1⟩ := HS.out.put1 i false
  rw [HQ.out.1] at hS1 hW1 hF1
  have HS1 := hide hS1
  have HW1 := hide hW1
  have HF1 := hide hF1
  clear hS1 hW1 hF1 c0 c1 c2 hcw hf hfS hO
  generalize (w.setCell ⟨g, q, none⟩ (.int .u64 (word (put m i false) q : Nat))).drew = w1 at *
  obtain ⟨c0, c1, c2⟩ := cells3 HS1.out
  have hfS := free_at HS1.out 1
  have hcw : IntKind.i64.wrap ((cnt m n : Int) - 1) = (cnt m n : Int) - 1 := by rw [IntKind.wrap_i64]; omega
  go_wp2_with fail
  go_ret2
  refine ⟨rfl, HS.out.put2 HS1.out HW1.out (put_off HS.out.off hi) ?_, HF1.out.setCell _ _ (.inl (.inl rfl))⟩
  have := HCQ.out
  omega
end Go.Proofs.YtmkbbekeimnajaaDoor
