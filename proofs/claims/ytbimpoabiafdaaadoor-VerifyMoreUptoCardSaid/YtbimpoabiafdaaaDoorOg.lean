/- operands; the law's step -/
import Derived.Test.YtbimpoabiafdaaaDoorEf
namespace Go.Proofs.YtbimpoabiafdaaaDoor
open Go.RowKit Vf
theorem u64_len (n : Nat) (h : n ≤ 1099511627776) : IntKind.u64.wrap (n : Int) = (n : Int) := by rw [IntKind.wrap_u64]; omega
set_option maxRecDepth 100000 in
set_option maxHeartbeats 4000000 in
theorem operands_any (w : World) (aa ac an ad ab : Option Addr) (na nc nn nd nb ca cc cn cd cb : Nat) (al : Bool) (hna : na ≤ 1099511627776) (hnc : nc ≤ 1099511627776) (hnn : nn ≤ 1099511627776) (x : Ins) (hf : Fit x) :
    Calls Tryd.prog 39 #[.agg #[.slice aa na ca, .slice ac nc cc, .slice an nn cn, .bool al, .slice ad nd cd, .slice ab nb cb], insV x] w fun e w' => e = .returned (.bool (opnd (na, nc, nn) x)) ∧ Below w.heap.size w w' := by
  obtain ⟨op, A, B⟩ := x
  obtain ⟨hop, hA, hB⟩ := hf
  simp only at hop hA hB
  have hq1 := (Below.refl w.heap.size w).alloc (Nat.le_refl _) (.cells #[.slice aa na ca, .slice ac nc cc, .slice an nn cn, .bool al, .slice ad nd cd, .slice ab nb cb] 27)
  have HBA := hide (hq1.alloc (by simp) (.cells #[.int .i64 op, .int .u64 A, .int .u64 B] 56))
  clear hq1
  unfold insV
  simp only
  have ua := u64_len na hna
  have uc := u64_len nc hnc
  have un := u64_len nn hnn
  have hcs : op = 0 ∨ op = 1 ∨ op = 2 ∨ op = 3 ∨ op = 4 ∨ op = 5 ∨ op = 6 ∨ op = 7 ∨ op = 8 ∨ op = 9 ∨ op = 10 ∨ op = 11 ∨ op = 12 ∨ op = 13 ∨ op = 14 ∨ op = 15 ∨ op = 16 := by omega
  rcases hcs with rfl | rfl | rfl | rfl | rfl | rfl | rfl | rfl | rfl | rfl | rfl | rfl | rfl | rfl | rfl | rfl | rfl
  · go_enter Tryd.func39, Tryd.ntmps39
    go_wp2_with fail
    go_ret
    exact ⟨by unfold opnd; simp, HBA.out⟩
  · go_enter Tryd.func39, Tryd.ntmps39
    go_wp2_with fail
    go_ret
    exact ⟨by unfold opnd; simp, HBA.out⟩
  · go_enter Tryd.func39, Tryd.ntmps39
    go_wp2_with fail
    go_ret
    exact ⟨by unfold opnd; simp, HBA.out⟩
  · by_cases hl : A < na
    · have hl1 : (A : Int) < (na : Int) := by omega
      go_enter Tryd.func39, Tryd.ntmps39
      go_wp2_with fail
      go_ret
      exact ⟨by unfold opnd; simp [hl], HBA.out⟩
    · have hl1 : ¬ (A : Int) < (na : Int) := by omega
      go_enter Tryd.func39, Tryd.ntmps39
      go_wp2_with fail
      go_ret
      exact ⟨by unfold opnd; simp; omega, HBA.out⟩
  · by_cases hl : A < nc
    · have hl1 : (A : Int) < (nc : Int) := by omega
      go_enter Tryd.func39, Tryd.ntmps39
      go_wp2_with fail
      go_ret
      exact ⟨by unfold opnd; simp [hl], HBA.out⟩
    · have hl1 : ¬ (A : Int) < (nc : Int) := by omega
      go_enter Tryd.func39, Tryd.ntmps39
      go_wp2_with fail
      go_ret
      exact ⟨by unfold opnd; simp; omega, HBA.out⟩
  · by_cases hl : A < nn
    · have hl1 : (A : Int) < (nn : Int) := by omega
      go_enter Tryd.func39, Tryd.ntmps39
      go_wp2_with fail
      go_ret
      exact ⟨by unfold opnd; simp [hl], HBA.out⟩
    · have hl1 : ¬ (A : Int) < (nn : Int) := by omega
      go_enter Tryd.func39, Tryd.ntmps39
      go_wp2_with fail
      go_ret
      exact ⟨by unfold opnd; simp; omega, HBA.out⟩
  · go_enter Tryd.func39, Tryd.ntmps39
    go_wp2_with fail
    go_ret
    exact ⟨by unfold opnd; simp, HBA.out⟩
  · go_enter Tryd.func39, Tryd.ntmps39
    go_wp2_with fail
    go_ret
    exact ⟨by unfold opnd; simp, HBA.out⟩
  · go_enter Tryd.func39, Tryd.ntmps39
    go_wp2_with fail
    go_ret
    exact ⟨by unfold opnd; simp, HBA.out⟩
  · go_enter Tryd.func39, Tryd.ntmps39
    go_wp2_with fail
    go_ret
    exact ⟨by unfold opnd; simp, HBA.out⟩
  · go_enter Tryd.func39, Tryd.ntmps39
    go_wp2_with fail
    go_ret
    exact ⟨by unfold opnd; simp, HBA.out⟩
  · go_enter Tryd.func39, Tryd.ntmps39
    go_wp2_with fail
    go_ret
    exact ⟨by unfold opnd; simp, HBA.out⟩
  · go_enter Tryd.func39, Tryd.ntmps39
    go_wp2_with fail
    go_ret
    exact ⟨by unfold opnd; simp, HBA.out⟩
  · go_enter Tryd.func39, Tryd.ntmps39
    go_wp2_with fail
    go_ret
    exact ⟨by unfold opnd; simp, HBA.out⟩
  · by_cases h1 : 1 ≤ A
    · have h1i : 1 ≤ (A : Int) := by omega
      by_cases h2 : 1 ≤ B
      · have h2i : 1 ≤ (B : Int) := by omega
        by_cases h3 : B ≤ A
        · have h3i : (B : Int) ≤ (A : Int) := by omega
          go_enter Tryd.func39, Tryd.ntmps39
          go_wp2_with fail
          go_ret
          exact ⟨by unfold opnd; simp; omega, HBA.out⟩
        · have h3i : ¬ (B : Int) ≤ (A : Int) := by omega
          go_enter Tryd.func39, Tryd.ntmps39
          go_wp2_with fail
          go_ret
          exact ⟨by unfold opnd; simp; omega, HBA.out⟩
      · have h2i : ¬ 1 ≤ (B : Int) := by omega
        go_enter Tryd.func39, Tryd.ntmps39
        go_wp2_with fail
        go_ret
        exact ⟨by unfold opnd; simp; omega, HBA.out⟩
    · have h1i : ¬ 1 ≤ (A : Int) := by omega
      go_enter Tryd.func39, Tryd.ntmps39
      go_wp2_with fail
      go_ret
      exact ⟨by unfold opnd; simp; omega, HBA.out⟩
  · go_enter Tryd.func39, Tryd.ntmps39
    go_wp2_with fail
    go_ret
    exact ⟨by unfold opnd; simp, HBA.out⟩
  · go_enter Tryd.func39, Tryd.ntmps39
    go_wp2_with fail
    go_ret
    exact ⟨by unfold opnd; simp, HBA.out⟩
set_option maxRecDepth 100000 in
set_option maxHeartbeats 4000000 in
theorem ref_operands_any (w : World) (aa ac an ad ab : Option Addr) (na nc nn nd nb ca cc cn cd cb : Nat) (al : Bool) (hna : na ≤ 1099511627776) (hnc : nc ≤ 1099511627776) (hnn : nn ≤ 1099511627776) (x : Ins) (hf : Fit x) :
    Calls Tryd.prog 44 #[.agg #[.slice aa na ca, .slice ac nc cc, .slice an nn cn, .bool al, .slice ad nd cd, .slice ab nb cb], insV x] w fun e w' => e = .returned (.bool (opnd (na, nc, nn) x)) ∧ Below w.heap.size w w' := by
  obtain ⟨op, A, B⟩ := x
  obtain ⟨hop, hA, hB⟩ := hf
  simp only at hop hA hB
  have hq1 := (Below.refl w.heap.size w).alloc (Nat.le_refl _) (.cells #[.slice aa na ca, .slice ac nc cc, .slice an nn cn, .bool al, .slice ad nd cd, .slice ab nb cb] 27)
  have HBA := hide (hq1.alloc (by simp) (.cells #[.int .i64 op, .int .u64 A, .int .u64 B] 56))
  clear hq1
  unfold insV
  simp only
  have ua := u64_len na hna
  have uc := u64_len nc hnc
  have un := u64_len nn hnn
  have hcs : op = 0 ∨ op = 1 ∨ op = 2 ∨ op = 3 ∨ op = 4 ∨ op = 5 ∨ op = 6 ∨ op = 7 ∨ op = 8 ∨ op = 9 ∨ op = 10 ∨ op = 11 ∨ op = 12 ∨ op = 13 ∨ op = 14 ∨ op = 15 ∨ op = 16 := by omega
  rcases hcs with rfl | rfl | rfl | rfl | rfl | rfl | rfl | rfl | rfl | rfl | rfl | rfl | rfl | rfl | rfl | rfl | rfl
  · go_enter Tryd.func44, Tryd.ntmps44
    go_wp2_with fail
    go_ret
    exact ⟨by unfold opnd; simp, HBA.out⟩
  · go_enter Tryd.func44, Tryd.ntmps44
    go_wp2_with fail
    go_ret
    exact ⟨by unfold opnd; simp, HBA.out⟩
  · go_enter Tryd.func44, Tryd.ntmps44
    go_wp2_with fail
    go_ret
    exact ⟨by unfold opnd; simp, HBA.out⟩
  · by_cases hl : A < na
    · have hl1 : (A : Int) < (na : Int) := by omega
      go_enter Tryd.func44, Tryd.ntmps44
      go_wp2_with fail
      go_ret
      exact ⟨by unfold opnd; simp [hl], HBA.out⟩
    · have hl1 : ¬ (A : Int) < (na : Int) := by omega
      go_enter Tryd.func44, Tryd.ntmps44
      go_wp2_with fail
      go_ret
      exact ⟨by unfold opnd; simp; omega, HBA.out⟩
  · by_cases hl : A < nc
    · have hl1 : (A : Int) < (nc : Int) := by omega
      go_enter Tryd.func44, Tryd.ntmps44
      go_wp2_with fail
      go_ret
      exact ⟨by unfold opnd; simp [hl], HBA.out⟩
    · have hl1 : ¬ (A : Int) < (nc : Int) := by omega
      go_enter Tryd.func44, Tryd.ntmps44
      go_wp2_with fail
      go_ret
      exact ⟨by unfold opnd; simp; omega, HBA.out⟩
  · by_cases hl : A < nn
    · have hl1 : (A : Int) < (nn : Int) := by omega
      go_enter Tryd.func44, Tryd.ntmps44
      go_wp2_with fail
      go_ret
      exact ⟨by unfold opnd; simp [hl], HBA.out⟩
    · have hl1 : ¬ (A : Int) < (nn : Int) := by omega
      go_enter Tryd.func44, Tryd.ntmps44
      go_wp2_with fail
      go_ret
      exact ⟨by unfold opnd; simp; omega, HBA.out⟩
  · go_enter Tryd.func44, Tryd.ntmps44
    go_wp2_with fail
    go_ret
    exact ⟨by unfold opnd; simp, HBA.out⟩
  · go_enter Tryd.func44, Tryd.ntmps44
    go_wp2_with fail
    go_ret
    exact ⟨by unfold opnd; simp, HBA.out⟩
  · go_enter Tryd.func44, Tryd.ntmps44
    go_wp2_with fail
    go_ret
    exact ⟨by unfold opnd; simp, HBA.out⟩
  · go_enter Tryd.func44, Tryd.ntmps44
    go_wp2_with fail
    go_ret
    exact ⟨by unfold opnd; simp, HBA.out⟩
  · go_enter Tryd.func44, Tryd.ntmps44
    go_wp2_with fail
    go_ret
    exact ⟨by unfold opnd; simp, HBA.out⟩
  · go_enter Tryd.func44, Tryd.ntmps44
    go_wp2_with fail
    go_ret
    exact ⟨by unfold opnd; simp, HBA.out⟩
  · go_enter Tryd.func44, Tryd.ntmps44
    go_wp2_with fail
    go_ret
    exact ⟨by unfold opnd; simp, HBA.out⟩
  · go_enter Tryd.func44, Tryd.ntmps44
    go_wp2_with fail
    go_ret
    exact ⟨by unfold opnd; simp, HBA.out⟩
  · by_cases h1 : 1 ≤ A
    · have h1i : 1 ≤ (A : Int) := by omega
      by_cases h2 : 1 ≤ B
      · have h2i : 1 ≤ (B : Int) := by omega
        by_cases h3 : B ≤ A
        · have h3i : (B : Int) ≤ (A : Int) := by omega
          go_enter Tryd.func44, Tryd.ntmps44
          go_wp2_with fail
          go_ret
          exact ⟨by unfold opnd; simp; omega, HBA.out⟩
        · have h3i : ¬ (B : Int) ≤ (A : Int) := by omega
          go_enter Tryd.func44, Tryd.ntmps44
          go_wp2_with fail
          go_ret
          exact ⟨by unfold opnd; simp; omega, HBA.out⟩
      · have h2i : ¬ 1 ≤ (B : Int) := by omega
        go_enter Tryd.func44, Tryd.ntmps44
        go_wp2_with fail
        go_ret
        exact ⟨by unfold opnd; simp; omega, HBA.out⟩
    · have h1i : ¬ 1 ≤ (A : Int) := by omega
      go_enter Tryd.func44, Tryd.ntmps44
      go_wp2_with fail
      go_ret
      exact ⟨by unfold opnd; simp; omega, HBA.out⟩
  · go_enter Tryd.func44, Tryd.ntmps44
    go_wp2_with fail
    go_ret
    exact ⟨by unfold opnd; simp, HBA.out⟩
  · go_enter Tryd.func44, Tryd.ntmps44
    go_wp2_with fail
    go_ret
    exact ⟨by unfold opnd; simp, HBA.out⟩
end Go.Proofs.YtbimpoabiafdaaaDoor
