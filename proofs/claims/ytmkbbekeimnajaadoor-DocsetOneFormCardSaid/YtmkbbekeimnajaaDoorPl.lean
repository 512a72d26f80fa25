/- the tag; a block's places -/
import Derived.Test.YtmkbbekeimnajaaDoorBo
namespace Go.Proofs.YtmkbbekeimnajaaDoor
open Go.RowKit Ds
set_option maxRecDepth 100000 in
theorem tag_any (w : World) (b c : Nat) (hb : b ≤ 256) (hc : c ≤ b) :
    Calls Tryd.prog 50 #[.int .i64 (b : Nat), .int .i64 (c : Nat)] w fun e w' => e = .returned (.int .u8 (tagOf b c : Nat)) ∧ w = w' := by
  by_cases h0 : c = 0
  · subst h0
    have HT := hide (show tagOf b 0 = 0 from by simp [tagOf])
    go_enter Tryd.func50, Tryd.ntmps50
    go_wp2_with fail
    go_ret
    exact ⟨by rw [HT.out]; rfl, rfl⟩
  · have h0i : ((c : Int) == 0) = false := by simp; omega
    by_cases h1 : c = b
    · subst h1
      have HT := hide (show tagOf c c = 1 from by simp [tagOf, h0])
      clear h0
      go_enter Tryd.func50, Tryd.ntmps50
      go_wp2_with fail
      go_ret
      exact ⟨by rw [HT.out]; rfl, rfl⟩
    · have h1i : ((c : Int) == (b : Int)) = false := by simp; omega
      obtain ⟨q, hq⟩ : ∃ q, (b + 7) / 8 = q := ⟨_, rfl⟩
      have hqi : ((b : Int) + 7) / 8 = (q : Int) := by omega
      have hw1 : IntKind.i64.wrap (2 + (b : Int) - (c : Int)) = 2 + (b : Int) - (c : Int) := by rw [IntKind.wrap_i64]; omega
      have HT := hide (show tagOf b c = if 1 + q < min (2 + c) (2 + b - c) then 4 else if 2 + b - c < 2 + c then 3 else 2 from by
        unfold tagOf
        rw [if_neg h0, if_neg h1, hq])
      clear hq
      by_cases h2 : 2 + b - c < 2 + c
      · have h2i : (2 : Int) + (b : Int) - (c : Int) < 2 + (c : Int) := by omega
        by_cases h3 : 1 + q < 2 + b - c
        · have h3i : (1 : Int) + (q : Int) < 2 + (b : Int) - (c : Int) := by omega
          have HT2 := hide (show tagOf b c = 4 from by rw [HT.out, if_pos (by omega)])
          clear h0 h1 h2 h3
          go_enter Tryd.func50, Tryd.ntmps50
          go_wp2_with fail
          go_ret
          exact ⟨by rw [HT2.out]; rfl, rfl⟩
        · have h3i : ¬ (1 : Int) + (q : Int) < 2 + (b : Int) - (c : Int) := by omega
          have HT2 := hide (show tagOf b c = 3 from by rw [HT.out, if_neg (by omega), if_pos h2])
          clear h0 h1 h2 h3
          go_enter Tryd.func50, Tryd.ntmps50
          go_wp2_with fail
          go_ret
          exact ⟨by rw [HT2.out]; rfl, rfl⟩
      · have h2i : ¬ (2 : Int) + (b : Int) - (c : Int) < 2 + (c : Int) := by omega
        by_cases h3 : 1 + q < 2 + c
        · have h3i : (1 : Int) + (q : Int) < 2 + (c : Int) := by omega
          have HT2 := hide (show tagOf b c = 4 from by rw [HT.out, if_pos (by omega)])
          clear h0 h1 h2 h3
          go_enter Tryd.func50, Tryd.ntmps50
          go_wp2_with fail
          go_ret
          exact ⟨by rw [HT2.out]; rfl, rfl⟩
        · have h3i : ¬ (1 : Int) + (q : Int) < 2 + (c : Int) := by omega
          have HT2 := hide (show tagOf b c = 2 from by rw [HT.out, if_neg (by omega), if_neg h2])
          clear h0 h1 h2 h3
          go_enter Tryd.func50, Tryd.ntmps50
          go_wp2_with fail
          go_ret
          exact ⟨by rw [HT2.out]; rfl, rfl⟩
theorem has_bit8 (f : Nat → Bool) (i : Nat) : bits .and .u8 ((oct f (i / 8) : Int) / 2 ^ (i % 8)) 1 = (if f i then 1 else 0 : Int) := by
  have hw := oct_lt f (i / 8)
  have e1 : ((oct f (i / 8) : Nat) : Int) / 2 ^ (i % 8) = ((oct f (i / 8) / 2 ^ (i % 8) : Nat) : Int) := by rw [Int.natCast_ediv, Int.natCast_pow]; rfl
  have hd : oct f (i / 8) / 2 ^ (i % 8) ≤ oct f (i / 8) := Nat.div_le_self _ _
  have hb := oct_bit f (i / 8) (i % 8)
  rw [Nat.testBit_eq_decide_div_mod_eq, decide_eq_true (Nat.mod_lt _ (by omega)), Bool.true_and, show 8 * (i / 8) + i % 8 = i by omega] at hb
  rw [e1]
  generalize oct f (i / 8) / 2 ^ (i % 8) = y at hd hb
  have h1 : (BitVec.ofInt 8 ((y : Nat) : Int)).toNat = y := by
    rw [BitVec.ofInt_natCast, BitVec.toNat_ofNat]; exact Nat.mod_eq_of_lt (by omega)
  have h2 : (BitVec.ofInt 8 (1 : Int)).toNat = 1 := rfl
  show IntKind.u8.wrap ((BitVec.ofInt 8 ((y : Nat) : Int) &&& BitVec.ofInt 8 (1 : Int)).toNat : Int) = _
  rw [BitVec.toNat_and, h1, h2, Nat.and_one_is_mod, IntKind.wrap_u8, ← hb]
  by_cases h : y % 2 = 1
  · simp [h]
  · have : y % 2 = 0 := by omega
    simp [this]
/-- the places whose bit is b -/
def sel (f : Nat → Bool) (b : Bool) : Nat → Bool := fun i => f i == b
def bv (b : Bool) : Int := if b then 1 else 0
end Go.Proofs.YtmkbbekeimnajaaDoor
