/- the next member -/
import Derived.Test.YtmkbbekeimnajaaDoorTz
namespace Go.Proofs.YtmkbbekeimnajaaDoor
open Go.RowKit Ds
/-- from i on, word q -/
def fromQ (m : Nat → Bool) (i q : Nat) : Nat → Bool := fun k => decide (i ≤ 64 * q + k) && m (64 * q + k)
theorem fromQ_start (m : Nat → Bool) (i : Nat) : word m (i / 64) / 2 ^ (i % 64) * 2 ^ (i % 64) = num 64 (fromQ m i (i / 64)) := by
  unfold word
  rw [shr_shl]
  refine num_congr fun k hk => ?_
  unfold fromQ
  have : decide (i % 64 ≤ k) = decide (i ≤ 64 * (i / 64) + k) := by
    by_cases h : i % 64 ≤ k
    · rw [decide_eq_true h, decide_eq_true (by omega)]
    · rw [decide_eq_false h, decide_eq_false (by omega)]
  rw [this]
theorem fromQ_word (m : Nat → Bool) {i q : Nat} (h : i ≤ 64 * q) : word m q = num 64 (fromQ m i q) := by
  unfold word
  refine num_congr fun k hk => ?_
  unfold fromQ
  rw [decide_eq_true (by omega), Bool.true_and]
def NextOut (m : Nat → Bool) (n : Nat) (i : Nat) (e : Ending) : Prop :=
  match next m n i with
  | some k => e = .returned (.tuple #[.int .i64 (k : Nat), .bool true])
  | none => e = .returned (.tuple #[.int .i64 0, .bool false])
theorem num_lt' (f : Nat → Bool) : num 64 f < 18446744073709551616 := num_lt 64 f
set_option maxRecDepth 100000 in
set_option maxHeartbeats 2000000 in
theorem next_in (w : World) {S g cap n : Nat} {m : Nat → Bool} (h : SetAt w S g cap n m) (hT : DeBr w) (i0 : Int) (i : Nat) (hi0 : (if i0 < 0 then 0 else i0) = (i : Int)) (hi : i < n) :
    Calls Tryd.prog 21 #[.pointer (some ⟨S, 0, none⟩), .int .i64 i0] w fun e w' => NextOut m n i e ∧ w = w' := by
  obtain ⟨c0, c1, c2⟩ := cells3 h.hd
  have hsm := h.small
  have HS := hide h
  have HT := hide hT
  have hcap := h.cap
  have hnw := nw_le h
  have hr64 : i % 64 < 64 := Nat.mod_lt _ (by omega)
  have hqn : i / 64 < nw n := by unfold nw; omega
  have hcw := h.cell hqn
  have hst := fromQ_start m i
  have hlt := num_lt' (fromQ m i (i / 64))
  have hsh : IntKind.u64.wrap ((word m (i / 64) : Int) / 2 ^ (i % 64) * 2 ^ (i % 64)) = ((num 64 (fromQ m i (i / 64)) : Nat) : Int) := by
    rw [← hst] at hlt ⊢
    have e1 : ((word m (i / 64) : Nat) : Int) / 2 ^ (i % 64) * 2 ^ (i % 64) = ((word m (i / 64) / 2 ^ (i % 64) * 2 ^ (i % 64) : Nat) : Int) := by
      rw [Int.natCast_mul, Int.natCast_ediv, Int.natCast_pow]; rfl
    rw [e1, IntKind.wrap_u64]
    generalize word m (i / 64) / 2 ^ (i % 64) * 2 ^ (i % 64) = y at hlt ⊢
    omega
  obtain ⟨q, hq⟩ : ∃ q, i / 64 = q := ⟨_, rfl⟩
  obtain ⟨r, hr⟩ : ∃ r, i % 64 = r := ⟨_, rfl⟩
  rw [hq] at hqn hcw hsh
  rw [hr] at hr64 hsh
  have hqi : (i : Int) / 64 = (q : Int) := by omega
  have hri : (i : Int) % 64 = (r : Int) := by omega
  have hin : ¬ (n : Int) ≤ (i : Int) := by omega
  have HQ := hide (show 64 * q ≤ i by omega)
  have HQN := hide hqn
  have HQ2 := hide (show i < 64 * (q + 1) by omega)
  clear hq hr h hT hst hlt
  go_enter Tryd.func21, Tryd.ntmps21
  go_wp2_with fail
  clear hcw hsh hqn hqi hri hr64 hi0 hin
  go_loop [6, 7] (fun x a => ∃ q : Nat, x = .int .u64 (num 64 (fromQ m i q) : Nat) ∧ a = .int .i64 (q : Nat) ∧ q < nw n ∧ i < 64 * (q + 1) ∧ ∀ j, i ≤ j → j < 64 * q → m j = false) (fun _ a => nw n - (intOf a).toNat)
  case atStart => exact ⟨q, rfl, rfl, HQN.out, HQ2.out, fun j h1 h2 => by have := HQ.out; omega⟩
  case round =>
    obtain ⟨q, rfl, rfl, hq, hiq, hno⟩ := hrel
    have HNO := hide hno
    have hlt := num_lt' (fromQ m i q)
    clear hno HQ HQN HQ2
    by_cases hx : num 64 (fromQ m i q) = 0
    · have hz := num_zero hx
      have HNO2 := hide (show ∀ j, i ≤ j → j < 64 * (q + 1) → m j = false from fun j h1 h2 => by
        by_cases h3 : j < 64 * q
        · exact HNO.out j h1 h3
        · have h4 := hz (j - 64 * q) (by omega)
          unfold fromQ at h4
          rw [show 64 * q + (j - 64 * q) = j by omega, decide_eq_true h1, Bool.true_and] at h4
          exact h4)
      have hxi : ((num 64 (fromQ m i q) : Nat) : Int) = 0 := by omega
      have hw1 : IntKind.i64.wrap ((q : Int) + 1) = (q : Int) + 1 := by rw [IntKind.wrap_i64]; omega
      clear hz hx hlt HNO
      rw [hxi]
      clear hxi
      by_cases hqe : q + 1 = nw n
      · have hei : (((q : Int) + 1) == (nw n : Int)) = true := by simp; omega
        have HN := hide (show next m n i = none from next_none fun j h1 h2 => HNO2.out j h1 (by rw [hqe]; unfold nw; omega))
        clear hqe
        go_wp2_with fail
        go_ret2
        exact ⟨by unfold NextOut; rw [HN.out]; rfl, rfl⟩
      · have hei : (((q : Int) + 1) == (nw n : Int)) = false := by simp; omega
        have hcw := HS.out.cell (show q + 1 < nw n by omega)
        have hfw := fromQ_word m (show i ≤ 64 * (q + 1) by omega)
        rw [hfw] at hcw
        have hqc : ((q : Int) + 1) < (nw n : Int) := by omega
        have HLT := hide (show q + 1 < nw n by omega)
        clear hqe hfw
        go_wp2_with fail
        exact ⟨⟨q + 1, rfl, by simp, HLT.out, by omega, HNO2.out⟩, by simp [intOf]; omega⟩
    · have hxi : (((num 64 (fromQ m i q) : Nat) : Int) == 0) = false := by simp; omega
      obtain ⟨t, ht, hft, hlo, hct⟩ := low_of (fromQ m i q) hx
      have HC := hide (ctz_any w _ hlt hx HT.out)
      rw [hct] at HC
      unfold fromQ at hft
      rw [Bool.and_eq_true] at hft
      have hkn : 64 * q + t < n := by
        by_cases h : 64 * q + t < n
        · exact h
        · have := HS.out.off (64 * q + t) (by omega)
          rw [this] at hft
          cases hft.2
      have HN := hide (show next m n i = some (64 * q + t) from next_some (of_decide_eq_true hft.1) hkn hft.2 fun j h1 h2 => by
        by_cases h3 : j < 64 * q
        · exact HNO.out j h1 h3
        · have h4 := hlo (j - 64 * q) (by omega)
          unfold fromQ at h4
          rw [show 64 * q + (j - 64 * q) = j by omega, decide_eq_true h1, Bool.true_and] at h4
          exact h4)
      have hw1 : IntKind.i64.wrap (64 * (q : Int)) = 64 * (q : Int) := by rw [IntKind.wrap_i64]; omega
      have hw2 : IntKind.i64.wrap (64 * (q : Int) + (t : Int)) = 64 * (q : Int) + (t : Int) := by rw [IntKind.wrap_i64]; omega
      clear hx hft hlo hct
      go_wp2_with fail
      refine HC.out.mono ?_
      rintro e wz ⟨rfl, rfl⟩
      go_wp2_with fail
      go_ret2
      refine ⟨?_, rfl⟩
      unfold NextOut
      rw [HN.out]
      simp
set_option maxRecDepth 100000 in
theorem next_any (w : World) {S g cap n : Nat} {m : Nat → Bool} (h : SetAt w S g cap n m) (hT : DeBr w) (i : Int) :
    Calls Tryd.prog 21 #[.pointer (some ⟨S, 0, none⟩), .int .i64 i] w fun e w' => NextOut m n i.toNat e ∧ w = w' := by
  by_cases hi : i.toNat < n
  · refine next_in w h hT i i.toNat ?_ hi
    split <;> omega
  · obtain ⟨c0, c1, c2⟩ := cells3 h.hd
    have HN := hide (show next m n i.toNat = none from next_none fun j h1 h2 => absurd h2 (by omega))
    by_cases h0 : i < 0
    · have hmx : (if i < 0 then 0 else i) = (0 : Int) := by rw [if_pos h0]
      have hn : ((n : Nat) : Int) ≤ 0 := by omega
      clear hi h0 h hT
      go_enter Tryd.func21, Tryd.ntmps21
      go_wp2_with fail
      go_ret2
      exact ⟨by unfold NextOut; rw [HN.out]; rfl, rfl⟩
    · have hmx : (if i < 0 then 0 else i) = i := by rw [if_neg h0]
      have hn : ((n : Nat) : Int) ≤ i := by omega
      clear hi h hT
      go_enter Tryd.func21, Tryd.ntmps21
      go_wp2_with fail
      go_ret2
      exact ⟨by unfold NextOut; rw [HN.out]; rfl, rfl⟩
end Go.Proofs.YtmkbbekeimnajaaDoor
