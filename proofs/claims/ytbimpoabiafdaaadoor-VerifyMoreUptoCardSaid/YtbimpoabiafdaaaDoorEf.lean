/- effect, operands, behind, step: one instruction -/
import Derived.Test.YtbimpoabiafdaaaDoorDe
namespace Go.Proofs.YtbimpoabiafdaaaDoor
open Go.RowKit Vf

/-- an instruction's value -/
def insV (x : Ins) : Value := .agg #[.int .i64 (x.1 : Nat), .int .u64 (x.2.1 : Nat), .int .u64 (x.2.2 : Nat)]
/-- what effect and behind answer -/
def EffOut (x : Ins) (h : Nat) (e : Ending) : Prop :=
  ∃ (z : Int) (b : Bool), e = .returned (.tuple #[.int .i64 z, .bool b]) ∧ match eff x h with
    | some h' => b = true ∧ z = (h' : Int)
    | none => b = false
theorem inside_any (w : World) (x n : Int) : Calls Tryd.prog 48 #[.int .i64 x, .int .i64 n] w fun e w' => e = .returned (.bool (decide (0 ≤ x ∧ x < n))) ∧ w = w' := by
  by_cases h0 : 0 ≤ x
  · by_cases h1 : x < n
    · have hd : decide (0 ≤ x ∧ x < n) = true := by simp; omega
      rw [hd]
      go_enter Tryd.func48, Tryd.ntmps48
      go_wp2_with fail
      go_ret
      exact ⟨rfl, rfl⟩
    · have hd : decide (0 ≤ x ∧ x < n) = false := by simp; omega
      rw [hd]
      go_enter Tryd.func48, Tryd.ntmps48
      go_wp2_with fail
      go_ret
      exact ⟨rfl, rfl⟩
  · have hd : decide (0 ≤ x ∧ x < n) = false := by simp; omega
    rw [hd]
    go_enter Tryd.func48, Tryd.ntmps48
    go_wp2_with fail
    go_ret
    exact ⟨rfl, rfl⟩
set_option maxRecDepth 100000 in
set_option maxHeartbeats 4000000 in
theorem effect_any (w : World) (x : Ins) (hf : Fit x) (h : Nat) (hh : h ≤ 1099511627776) :
    Calls Tryd.prog 38 #[insV x, .int .i64 h] w fun e w' => EffOut x h e ∧ Below w.heap.size w w' := by
  obtain ⟨op, A, B⟩ := x
  obtain ⟨hop, hA, hB⟩ := hf
  simp only at hop hA hB
  have HBA := hide ((Below.refl w.heap.size w).alloc (Nat.le_refl _) (.cells #[.int .i64 op, .int .u64 A, .int .u64 B] 56))
  unfold insV
  simp only
  have hw1 : IntKind.i64.wrap ((h : Int) + 1) = (h : Int) + 1 := by rw [IntKind.wrap_i64]; omega
  have hw2 : IntKind.i64.wrap ((h : Int) - 1) = (h : Int) - 1 := by rw [IntKind.wrap_i64]; omega
  have hu : IntKind.u64.wrap (h : Int) = (h : Int) := by rw [IntKind.wrap_u64]; omega
  have hcs : op = 0 ∨ op = 1 ∨ op = 2 ∨ op = 3 ∨ op = 4 ∨ op = 5 ∨ op = 6 ∨ op = 7 ∨ op = 8 ∨ op = 9 ∨ op = 10 ∨ op = 11 ∨ op = 12 ∨ op = 13 ∨ op = 14 ∨ op = 15 ∨ op = 16 := by omega
  rcases hcs with rfl | rfl | rfl | rfl | rfl | rfl | rfl | rfl | rfl | rfl | rfl | rfl | rfl | rfl | rfl | rfl | rfl
  · go_enter Tryd.func38, Tryd.ntmps38
    go_wp2_with fail
    go_ret2
    refine ⟨⟨_, _, rfl, ?_⟩, HBA.out⟩
    unfold eff
    simp
    by_cases hc : h = 1
    · rw [if_pos hc]; simp; omega
    · rw [if_neg hc]; simp; omega
  · go_enter Tryd.func38, Tryd.ntmps38
    go_wp2_with fail
    go_ret2
    refine ⟨⟨_, _, rfl, ?_⟩, HBA.out⟩
    unfold eff
    simp
  · go_enter Tryd.func38, Tryd.ntmps38
    go_wp2_with fail
    go_ret2
    refine ⟨⟨_, _, rfl, ?_⟩, HBA.out⟩
    unfold eff
    simp
  · go_enter Tryd.func38, Tryd.ntmps38
    go_wp2_with fail
    go_ret2
    refine ⟨⟨_, _, rfl, ?_⟩, HBA.out⟩
    unfold eff
    simp
  · go_enter Tryd.func38, Tryd.ntmps38
    go_wp2_with fail
    go_ret2
    refine ⟨⟨_, _, rfl, ?_⟩, HBA.out⟩
    unfold eff
    simp
  · go_enter Tryd.func38, Tryd.ntmps38
    go_wp2_with fail
    go_ret2
    refine ⟨⟨_, _, rfl, ?_⟩, HBA.out⟩
    unfold eff
    simp
  · go_enter Tryd.func38, Tryd.ntmps38
    go_wp2_with fail
    go_ret2
    refine ⟨⟨_, _, rfl, ?_⟩, HBA.out⟩
    unfold eff
    simp
    by_cases hc : 2 ≤ h
    · rw [if_pos hc]; simp; omega
    · rw [if_neg hc]; simp; omega
  · go_enter Tryd.func38, Tryd.ntmps38
    go_wp2_with fail
    go_ret2
    refine ⟨⟨_, _, rfl, ?_⟩, HBA.out⟩
    unfold eff
    simp
    by_cases hc : 2 ≤ h
    · rw [if_pos hc]; simp; omega
    · rw [if_neg hc]; simp; omega
  · go_enter Tryd.func38, Tryd.ntmps38
    go_wp2_with fail
    go_ret2
    refine ⟨⟨_, _, rfl, ?_⟩, HBA.out⟩
    unfold eff
    simp
    by_cases hc : 2 ≤ h
    · rw [if_pos hc]; simp; omega
    · rw [if_neg hc]; simp; omega
  · go_enter Tryd.func38, Tryd.ntmps38
    go_wp2_with fail
    go_ret2
    refine ⟨⟨_, _, rfl, ?_⟩, HBA.out⟩
    unfold eff
    simp
    by_cases hc : 2 ≤ h
    · rw [if_pos hc]; simp; omega
    · rw [if_neg hc]; simp; omega
  · go_enter Tryd.func38, Tryd.ntmps38
    go_wp2_with fail
    go_ret2
    refine ⟨⟨_, _, rfl, ?_⟩, HBA.out⟩
    unfold eff
    simp
    by_cases hc : 2 ≤ h
    · rw [if_pos hc]; simp; omega
    · rw [if_neg hc]; simp; omega
  · go_enter Tryd.func38, Tryd.ntmps38
    go_wp2_with fail
    go_ret2
    refine ⟨⟨_, _, rfl, ?_⟩, HBA.out⟩
    unfold eff
    simp
    by_cases hc : 1 ≤ h
    · rw [if_pos hc]; simp; omega
    · rw [if_neg hc]; simp; omega
  · go_enter Tryd.func38, Tryd.ntmps38
    go_wp2_with fail
    go_ret2
    refine ⟨⟨_, _, rfl, ?_⟩, HBA.out⟩
    unfold eff
    simp
    by_cases hc : 1 ≤ h
    · rw [if_pos hc]; simp; omega
    · rw [if_neg hc]; simp; omega
  · go_enter Tryd.func38, Tryd.ntmps38
    go_wp2_with fail
    go_ret2
    refine ⟨⟨_, _, rfl, ?_⟩, HBA.out⟩
    unfold eff
    simp
    by_cases hc : 1 ≤ h
    · rw [if_pos hc]; simp; omega
    · rw [if_neg hc]; simp; omega
  · by_cases hl : h < A
    · have hl1 : (h : Int) < (A : Int) := by omega
      go_enter Tryd.func38, Tryd.ntmps38
      go_wp2_with fail
      go_ret2
      exact ⟨⟨_, _, rfl, by unfold eff; simp; rw [if_neg (by omega)]; simp⟩, HBA.out⟩
    · have hl1 : ¬ (h : Int) < (A : Int) := by omega
      have hl2 : (A : Int) ≤ (h : Int) := by omega
      have ha : IntKind.i64.wrap (A : Int) = (A : Int) := by rw [IntKind.wrap_i64]; omega
      have hw3 : IntKind.i64.wrap ((h : Int) - A) = (h : Int) - A := by rw [IntKind.wrap_i64]; omega
      have hw4 : IntKind.i64.wrap ((h : Int) - A + 1) = (h : Int) - A + 1 := by rw [IntKind.wrap_i64]; omega
      go_enter Tryd.func38, Tryd.ntmps38
      go_wp2_with fail
      go_ret2
      exact ⟨⟨_, _, rfl, by unfold eff; simp; rw [if_pos (by omega)]; simp; omega⟩, HBA.out⟩
  · go_enter Tryd.func38, Tryd.ntmps38
    go_wp2_with fail
    go_ret2
    refine ⟨⟨_, _, rfl, ?_⟩, HBA.out⟩
    unfold eff
    simp
    by_cases hc : 1 ≤ h
    · rw [if_pos hc]; simp; omega
    · rw [if_neg hc]; simp; omega
  · go_enter Tryd.func38, Tryd.ntmps38
    go_wp2_with fail
    go_ret2
    refine ⟨⟨_, _, rfl, ?_⟩, HBA.out⟩
    unfold eff
    simp
    by_cases hc : 1 ≤ h
    · rw [if_pos hc]; simp; omega
    · rw [if_neg hc]; simp; omega
set_option maxRecDepth 100000 in
set_option maxHeartbeats 4000000 in
theorem behind_any (w : World) (x : Ins) (hf : Fit x) (h : Nat) (hh : h ≤ 1099511627776) :
    Calls Tryd.prog 43 #[insV x, .int .i64 h] w fun e w' => EffOut x h e ∧ Below w.heap.size w w' := by
  obtain ⟨op, A, B⟩ := x
  obtain ⟨hop, hA, hB⟩ := hf
  simp only at hop hA hB
  have HBA := hide ((Below.refl w.heap.size w).alloc (Nat.le_refl _) (.cells #[.int .i64 op, .int .u64 A, .int .u64 B] 56))
  unfold insV
  simp only
  have hw1 : IntKind.i64.wrap ((h : Int) + 1) = (h : Int) + 1 := by rw [IntKind.wrap_i64]; omega
  have hw2 : IntKind.i64.wrap ((h : Int) - 1) = (h : Int) - 1 := by rw [IntKind.wrap_i64]; omega
  have hu : IntKind.u64.wrap (h : Int) = (h : Int) := by rw [IntKind.wrap_u64]; omega
  have hcs : op = 0 ∨ op = 1 ∨ op = 2 ∨ op = 3 ∨ op = 4 ∨ op = 5 ∨ op = 6 ∨ op = 7 ∨ op = 8 ∨ op = 9 ∨ op = 10 ∨ op = 11 ∨ op = 12 ∨ op = 13 ∨ op = 14 ∨ op = 15 ∨ op = 16 := by omega
  rcases hcs with rfl | rfl | rfl | rfl | rfl | rfl | rfl | rfl | rfl | rfl | rfl | rfl | rfl | rfl | rfl | rfl | rfl
  · go_enter Tryd.func43, Tryd.ntmps43
    go_wp2_with fail
    go_ret2
    refine ⟨⟨_, _, rfl, ?_⟩, HBA.out⟩
    unfold eff
    simp
    by_cases hc : h = 1
    · rw [if_pos hc]; simp; omega
    · rw [if_neg hc]; simp; omega
  · go_enter Tryd.func43, Tryd.ntmps43
    go_wp2_with fail
    go_ret2
    refine ⟨⟨_, _, rfl, ?_⟩, HBA.out⟩
    unfold eff
    simp
  · go_enter Tryd.func43, Tryd.ntmps43
    go_wp2_with fail
    go_ret2
    refine ⟨⟨_, _, rfl, ?_⟩, HBA.out⟩
    unfold eff
    simp
  · go_enter Tryd.func43, Tryd.ntmps43
    go_wp2_with fail
    go_ret2
    refine ⟨⟨_, _, rfl, ?_⟩, HBA.out⟩
    unfold eff
    simp
  · go_enter Tryd.func43, Tryd.ntmps43
    go_wp2_with fail
    go_ret2
    refine ⟨⟨_, _, rfl, ?_⟩, HBA.out⟩
    unfold eff
    simp
  · go_enter Tryd.func43, Tryd.ntmps43
    go_wp2_with fail
    go_ret2
    refine ⟨⟨_, _, rfl, ?_⟩, HBA.out⟩
    unfold eff
    simp
  · go_enter Tryd.func43, Tryd.ntmps43
    go_wp2_with fail
    go_ret2
    refine ⟨⟨_, _, rfl, ?_⟩, HBA.out⟩
    unfold eff
    simp
    by_cases hc : 2 ≤ h
    · rw [if_pos hc]; simp; omega
    · rw [if_neg hc]; simp; omega
  · go_enter Tryd.func43, Tryd.ntmps43
    go_wp2_with fail
    go_ret2
    refine ⟨⟨_, _, rfl, ?_⟩, HBA.out⟩
    unfold eff
    simp
    by_cases hc : 2 ≤ h
    · rw [if_pos hc]; simp; omega
    · rw [if_neg hc]; simp; omega
  · go_enter Tryd.func43, Tryd.ntmps43
    go_wp2_with fail
    go_ret2
    refine ⟨⟨_, _, rfl, ?_⟩, HBA.out⟩
    unfold eff
    simp
    by_cases hc : 2 ≤ h
    · rw [if_pos hc]; simp; omega
    · rw [if_neg hc]; simp; omega
  · go_enter Tryd.func43, Tryd.ntmps43
    go_wp2_with fail
    go_ret2
    refine ⟨⟨_, _, rfl, ?_⟩, HBA.out⟩
    unfold eff
    simp
    by_cases hc : 2 ≤ h
    · rw [if_pos hc]; simp; omega
    · rw [if_neg hc]; simp; omega
  · go_enter Tryd.func43, Tryd.ntmps43
    go_wp2_with fail
    go_ret2
    refine ⟨⟨_, _, rfl, ?_⟩, HBA.out⟩
    unfold eff
    simp
    by_cases hc : 2 ≤ h
    · rw [if_pos hc]; simp; omega
    · rw [if_neg hc]; simp; omega
  · go_enter Tryd.func43, Tryd.ntmps43
    go_wp2_with fail
    go_ret2
    refine ⟨⟨_, _, rfl, ?_⟩, HBA.out⟩
    unfold eff
    simp
    by_cases hc : 1 ≤ h
    · rw [if_pos hc]; simp; omega
    · rw [if_neg hc]; simp; omega
  · go_enter Tryd.func43, Tryd.ntmps43
    go_wp2_with fail
    go_ret2
    refine ⟨⟨_, _, rfl, ?_⟩, HBA.out⟩
    unfold eff
    simp
    by_cases hc : 1 ≤ h
    · rw [if_pos hc]; simp; omega
    · rw [if_neg hc]; simp; omega
  · go_enter Tryd.func43, Tryd.ntmps43
    go_wp2_with fail
    go_ret2
    refine ⟨⟨_, _, rfl, ?_⟩, HBA.out⟩
    unfold eff
    simp
    by_cases hc : 1 ≤ h
    · rw [if_pos hc]; simp; omega
    · rw [if_neg hc]; simp; omega
  · by_cases hl : h < A
    · have hl1 : (h : Int) < (A : Int) := by omega
      go_enter Tryd.func43, Tryd.ntmps43
      go_wp2_with fail
      go_ret2
      exact ⟨⟨_, _, rfl, by unfold eff; simp; rw [if_neg (by omega)]; simp⟩, HBA.out⟩
    · have hl1 : ¬ (h : Int) < (A : Int) := by omega
      have hl2 : (A : Int) ≤ (h : Int) := by omega
      have ha : IntKind.i64.wrap (A : Int) = (A : Int) := by rw [IntKind.wrap_i64]; omega
      have hw3 : IntKind.i64.wrap ((h : Int) - A) = (h : Int) - A := by rw [IntKind.wrap_i64]; omega
      have hw4 : IntKind.i64.wrap ((h : Int) - A + 1) = (h : Int) - A + 1 := by rw [IntKind.wrap_i64]; omega
      go_enter Tryd.func43, Tryd.ntmps43
      go_wp2_with fail
      go_ret2
      exact ⟨⟨_, _, rfl, by unfold eff; simp; rw [if_pos (by omega)]; simp; omega⟩, HBA.out⟩
  · go_enter Tryd.func43, Tryd.ntmps43
    go_wp2_with fail
    go_ret2
    refine ⟨⟨_, _, rfl, ?_⟩, HBA.out⟩
    unfold eff
    simp
    by_cases hc : 1 ≤ h
    · rw [if_pos hc]; simp; omega
    · rw [if_neg hc]; simp; omega
  · go_enter Tryd.func43, Tryd.ntmps43
    go_wp2_with fail
    go_ret2
    refine ⟨⟨_, _, rfl, ?_⟩, HBA.out⟩
    unfold eff
    simp
    by_cases hc : 1 ≤ h
    · rw [if_pos hc]; simp; omega
    · rw [if_neg hc]; simp; omega
end Go.Proofs.YtbimpoabiafdaaaDoor
