/- the law's step -/
import Derived.Test.YtbimpoabiafdaaaDoorNr
import Derived.Deep.QuietTactic
import Derived.BigQuiet
namespace Go.Proofs.YtbimpoabiafdaaaDoor
open Go.RowKit Vf
/-- the height behind an instruction that is no end -/
def stp (T : Nat × Nat × Nat) (x : Ins) (h : Nat) : Option Nat := if x.1 = 0 then none else if opnd T x = true then eff x h else none
theorem stp_some {T : Nat × Nat × Nat} {x : Ins} {h h' : Nat} (k : stp T x h = some h') : x.1 ≠ 0 ∧ opnd T x = true ∧ eff x h = some h' := by
  unfold stp at k
  split at k
  · cases k
  · split at k
    · rename_i h1 h2; exact ⟨h1, h2, k⟩
    · cases k
theorem stp_of {T : Nat × Nat × Nat} {x : Ins} {h h' : Nat} (h0 : x.1 ≠ 0) (ho : opnd T x = true) (he : eff x h = some h') : stp T x h = some h' := by
  unfold stp; rw [if_neg h0, if_pos ho, he]
theorem stp_none {T : Nat × Nat × Nat} {x : Ins} {h : Nat} (k : stp T x h = none) (h0 : x.1 ≠ 0) : opnd T x = false ∨ eff x h = none := by
  unfold stp at k
  rw [if_neg h0] at k
  split at k
  · exact .inr k
  · rename_i h1; exact .inl (by simpa using h1)
/-- what step answers -/
def StepOut (T : Nat × Nat × Nat) (x : Ins) (h : Nat) (e : Ending) : Prop :=
  ∃ (z : Int) (b : Bool), e = .returned (.tuple #[.int .i64 z, .bool b]) ∧ match stp T x h with
    | some h' => b = true ∧ z = (h' : Int)
    | none => b = false
set_option maxRecDepth 100000 in
set_option maxHeartbeats 8000000 in
theorem step_any (w : World) (aa ac an ad ab : Option Addr) (na nc nn nd nb ca cc cn cd cb : Nat) (al : Bool) (hna : na ≤ 1099511627776) (hnc : nc ≤ 1099511627776) (hnn : nn ≤ 1099511627776) (x : Ins) (hf : Fit x) (h : Nat) (hh : h ≤ 1099511627776) :
    Calls Tryd.prog 21 #[.agg #[.slice aa na ca, .slice ac nc cc, .slice an nn cn, .bool al, .slice ad nd cd, .slice ab nb cb], insV x, .int .i64 h] w fun e w' => StepOut (na, nc, nn) x h e ∧ Below w.heap.size w w' := by
  obtain ⟨op, A, B⟩ := x
  obtain ⟨hop, hA, hB⟩ := hf
  simp only at hop hA hB
  have hq1 := (Below.refl w.heap.size w).alloc (Nat.le_refl _) (.cells #[.slice aa na ca, .slice ac nc cc, .slice an nn cn, .bool al, .slice ad nd cd, .slice ab nb cb] 27)
  have hq2 := hq1.alloc (by simp) (.cells #[.int .i64 op, .int .u64 A, .int .u64 B] 56)
  have hsz : (w.alloc (.cells #[.slice aa na ca, .slice ac nc cc, .slice an nn cn, .bool al, .slice ad nd cd, .slice ab nb cb] 27)).heap.size = w.heap.size + 1 := by simp
  have HX := hide (heap_new (w := w.alloc (.cells #[.slice aa na ca, .slice ac nc cc, .slice an nn cn, .bool al, .slice ad nd cd, .slice ab nb cb] 27)) rfl (.cells #[.int .i64 op, .int .u64 A, .int .u64 B] 56))
  have hh6 := heap_old (heap_new (w := w) rfl (.cells #[.slice aa na ca, .slice ac nc cc, .slice an nn cn, .bool al, .slice ad nd cd, .slice ab nb cb] 27)) (.cells #[.int .i64 op, .int .u64 A, .int .u64 B] 56)
  rw [hsz] at HX
  have HH6 := hide hh6
  have HBA := hide hq2
  clear hq1 hq2 hh6
  unfold insV
  simp only
  have hw1 : IntKind.i64.wrap ((h : Int) + 1) = (h : Int) + 1 := by rw [IntKind.wrap_i64]; omega
  have hw2 : IntKind.i64.wrap ((h : Int) - 1) = (h : Int) - 1 := by rw [IntKind.wrap_i64]; omega
  have hu : IntKind.u64.wrap (h : Int) = (h : Int) := by rw [IntKind.wrap_u64]; omega
  have ua := u64_len na hna
  have uc := u64_len nc hnc
  have un := u64_len nn hnn
  have hcs : op = 0 ∨ op = 1 ∨ op = 2 ∨ op = 3 ∨ op = 4 ∨ op = 5 ∨ op = 6 ∨ op = 7 ∨ op = 8 ∨ op = 9 ∨ op = 10 ∨ op = 11 ∨ op = 12 ∨ op = 13 ∨ op = 14 ∨ op = 15 ∨ op = 16 := by omega
  rcases hcs with rfl | rfl | rfl | rfl | rfl | rfl | rfl | rfl | rfl | rfl | rfl | rfl | rfl | rfl | rfl | rfl | rfl
  · go_enter Tryd.func21, Tryd.ntmps21
    go_wp2_with fail
    go_ret2
    exact ⟨⟨_, _, rfl, by unfold stp; simp⟩, HBA.out⟩
  · go_enter Tryd.func21, Tryd.ntmps21
    go_wp2_with fail
    go_ret2
    exact ⟨⟨_, _, rfl, by unfold stp opnd eff; simp⟩, HBA.out⟩
  · go_enter Tryd.func21, Tryd.ntmps21
    go_wp2_with fail
    go_ret2
    exact ⟨⟨_, _, rfl, by unfold stp opnd eff; simp⟩, HBA.out⟩
  · by_cases hl : A < na
    · have hl1 : (A : Int) < (na : Int) := by omega
      obtain ⟨x0, x1, x2⟩ := cells3 HX.out
      obtain ⟨p0, p1, p2, p3, p4, p5⟩ := cells6 HH6.out
      go_enter Tryd.func21, Tryd.ntmps21
      go_wp2_with fail
      go_quiet (fail)
      go_wp2
      go_ret2
      exact ⟨⟨_, _, rfl, by unfold stp opnd eff; simp [hl]⟩, below_drewN HBA.out _⟩
    · have hl1 : ¬ (A : Int) < (na : Int) := by omega
      obtain ⟨x0, x1, x2⟩ := cells3 HX.out
      obtain ⟨p0, p1, p2, p3, p4, p5⟩ := cells6 HH6.out
      go_enter Tryd.func21, Tryd.ntmps21
      go_wp2_with fail
      go_quiet (fail)
      go_wp2
      go_ret2
      exact ⟨⟨_, _, rfl, by unfold stp opnd; simp [hl]⟩, below_drewN HBA.out _⟩
  · by_cases hl : A < nc
    · have hl1 : (A : Int) < (nc : Int) := by omega
      obtain ⟨x0, x1, x2⟩ := cells3 HX.out
      obtain ⟨p0, p1, p2, p3, p4, p5⟩ := cells6 HH6.out
      go_enter Tryd.func21, Tryd.ntmps21
      go_wp2_with fail
      go_quiet (fail)
      go_wp2
      go_ret2
      exact ⟨⟨_, _, rfl, by unfold stp opnd eff; simp [hl]⟩, below_drewN HBA.out _⟩
    · have hl1 : ¬ (A : Int) < (nc : Int) := by omega
      obtain ⟨x0, x1, x2⟩ := cells3 HX.out
      obtain ⟨p0, p1, p2, p3, p4, p5⟩ := cells6 HH6.out
      go_enter Tryd.func21, Tryd.ntmps21
      go_wp2_with fail
      go_quiet (fail)
      go_wp2
      go_ret2
      exact ⟨⟨_, _, rfl, by unfold stp opnd; simp [hl]⟩, below_drewN HBA.out _⟩
  · by_cases hl : A < nn
    · have hl1 : (A : Int) < (nn : Int) := by omega
      obtain ⟨x0, x1, x2⟩ := cells3 HX.out
      obtain ⟨p0, p1, p2, p3, p4, p5⟩ := cells6 HH6.out
      go_enter Tryd.func21, Tryd.ntmps21
      go_wp2_with fail
      go_quiet (fail)
      go_wp2
      go_ret2
      exact ⟨⟨_, _, rfl, by unfold stp opnd eff; simp [hl]⟩, below_drewN HBA.out _⟩
    · have hl1 : ¬ (A : Int) < (nn : Int) := by omega
      obtain ⟨x0, x1, x2⟩ := cells3 HX.out
      obtain ⟨p0, p1, p2, p3, p4, p5⟩ := cells6 HH6.out
      go_enter Tryd.func21, Tryd.ntmps21
      go_wp2_with fail
      go_quiet (fail)
      go_wp2
      go_ret2
      exact ⟨⟨_, _, rfl, by unfold stp opnd; simp [hl]⟩, below_drewN HBA.out _⟩
  · by_cases hc : 2 ≤ h
    · have hc1 : 2 ≤ (h : Int) := by omega
      go_enter Tryd.func21, Tryd.ntmps21
      go_wp2_with fail
      go_ret2
      exact ⟨⟨_, _, rfl, by unfold stp opnd eff; simp [hc]; omega⟩, HBA.out⟩
    · have hc1 : ¬ 2 ≤ (h : Int) := by omega
      go_enter Tryd.func21, Tryd.ntmps21
      go_wp2_with fail
      go_ret2
      exact ⟨⟨_, _, rfl, by unfold stp opnd eff; simp [hc]⟩, HBA.out⟩
  · by_cases hc : 2 ≤ h
    · have hc1 : 2 ≤ (h : Int) := by omega
      go_enter Tryd.func21, Tryd.ntmps21
      go_wp2_with fail
      go_ret2
      exact ⟨⟨_, _, rfl, by unfold stp opnd eff; simp [hc]; omega⟩, HBA.out⟩
    · have hc1 : ¬ 2 ≤ (h : Int) := by omega
      go_enter Tryd.func21, Tryd.ntmps21
      go_wp2_with fail
      go_ret2
      exact ⟨⟨_, _, rfl, by unfold stp opnd eff; simp [hc]⟩, HBA.out⟩
  · by_cases hc : 2 ≤ h
    · have hc1 : 2 ≤ (h : Int) := by omega
      go_enter Tryd.func21, Tryd.ntmps21
      go_wp2_with fail
      go_ret2
      exact ⟨⟨_, _, rfl, by unfold stp opnd eff; simp [hc]; omega⟩, HBA.out⟩
    · have hc1 : ¬ 2 ≤ (h : Int) := by omega
      go_enter Tryd.func21, Tryd.ntmps21
      go_wp2_with fail
      go_ret2
      exact ⟨⟨_, _, rfl, by unfold stp opnd eff; simp [hc]⟩, HBA.out⟩
  · by_cases hc : 2 ≤ h
    · have hc1 : 2 ≤ (h : Int) := by omega
      go_enter Tryd.func21, Tryd.ntmps21
      go_wp2_with fail
      go_ret2
      exact ⟨⟨_, _, rfl, by unfold stp opnd eff; simp [hc]; omega⟩, HBA.out⟩
    · have hc1 : ¬ 2 ≤ (h : Int) := by omega
      go_enter Tryd.func21, Tryd.ntmps21
      go_wp2_with fail
      go_ret2
      exact ⟨⟨_, _, rfl, by unfold stp opnd eff; simp [hc]⟩, HBA.out⟩
  · by_cases hc : 2 ≤ h
    · have hc1 : 2 ≤ (h : Int) := by omega
      go_enter Tryd.func21, Tryd.ntmps21
      go_wp2_with fail
      go_ret2
      exact ⟨⟨_, _, rfl, by unfold stp opnd eff; simp [hc]; omega⟩, HBA.out⟩
    · have hc1 : ¬ 2 ≤ (h : Int) := by omega
      go_enter Tryd.func21, Tryd.ntmps21
      go_wp2_with fail
      go_ret2
      exact ⟨⟨_, _, rfl, by unfold stp opnd eff; simp [hc]⟩, HBA.out⟩
  · by_cases hc : 1 ≤ h
    · have hc1 : 1 ≤ (h : Int) := by omega
      go_enter Tryd.func21, Tryd.ntmps21
      go_wp2_with fail
      go_ret2
      exact ⟨⟨_, _, rfl, by unfold stp opnd eff; simp [hc]⟩, HBA.out⟩
    · have hc1 : ¬ 1 ≤ (h : Int) := by omega
      go_enter Tryd.func21, Tryd.ntmps21
      go_wp2_with fail
      go_ret2
      exact ⟨⟨_, _, rfl, by unfold stp opnd eff; simp [hc]⟩, HBA.out⟩
  · by_cases hc : 1 ≤ h
    · have hc1 : 1 ≤ (h : Int) := by omega
      go_enter Tryd.func21, Tryd.ntmps21
      go_wp2_with fail
      go_ret2
      exact ⟨⟨_, _, rfl, by unfold stp opnd eff; simp [hc]⟩, HBA.out⟩
    · have hc1 : ¬ 1 ≤ (h : Int) := by omega
      go_enter Tryd.func21, Tryd.ntmps21
      go_wp2_with fail
      go_ret2
      exact ⟨⟨_, _, rfl, by unfold stp opnd eff; simp [hc]⟩, HBA.out⟩
  · by_cases hc : 1 ≤ h
    · have hc1 : 1 ≤ (h : Int) := by omega
      go_enter Tryd.func21, Tryd.ntmps21
      go_wp2_with fail
      go_ret2
      exact ⟨⟨_, _, rfl, by unfold stp opnd eff; simp [hc]⟩, HBA.out⟩
    · have hc1 : ¬ 1 ≤ (h : Int) := by omega
      go_enter Tryd.func21, Tryd.ntmps21
      go_wp2_with fail
      go_ret2
      exact ⟨⟨_, _, rfl, by unfold stp opnd eff; simp [hc]⟩, HBA.out⟩
  · by_cases h1 : 1 ≤ A
    · have h1i : ¬ (A : Int) < 1 := by omega
      by_cases h2 : 1 ≤ B
      · have h2i : ¬ (B : Int) < 1 := by omega
        by_cases h3 : B ≤ A
        · have h3i : ¬ (A : Int) < (B : Int) := by omega
          by_cases h4 : A ≤ h
          · have h4i : ¬ (h : Int) < (A : Int) := by omega
            have ha : IntKind.i64.wrap (A : Int) = (A : Int) := by rw [IntKind.wrap_i64]; omega
            have hw3 : IntKind.i64.wrap ((h : Int) + 1 - A) = (h : Int) + 1 - A := by rw [IntKind.wrap_i64]; omega
            obtain ⟨x0, x1, x2⟩ := cells3 HX.out
            go_enter Tryd.func21, Tryd.ntmps21
            go_wp2_with fail
            go_ret2
            exact ⟨⟨_, _, rfl, by unfold stp opnd eff; simp [h1, h2, h3, h4]; omega⟩, HBA.out⟩
          · have h4i : (h : Int) < (A : Int) := by omega
            obtain ⟨x0, x1, x2⟩ := cells3 HX.out
            go_enter Tryd.func21, Tryd.ntmps21
            go_wp2_with fail
            go_ret2
            exact ⟨⟨_, _, rfl, by unfold stp opnd eff; simp [h4]⟩, HBA.out⟩
        · have h3i : (A : Int) < (B : Int) := by omega
          obtain ⟨x0, x1, x2⟩ := cells3 HX.out
          go_enter Tryd.func21, Tryd.ntmps21
          go_wp2_with fail
          go_ret2
          exact ⟨⟨_, _, rfl, by unfold stp opnd; simp [h3]⟩, HBA.out⟩
      · have h2i : (B : Int) < 1 := by omega
        obtain ⟨x0, x1, x2⟩ := cells3 HX.out
        go_enter Tryd.func21, Tryd.ntmps21
        go_wp2_with fail
        go_ret2
        exact ⟨⟨_, _, rfl, by unfold stp opnd; simp [h2]⟩, HBA.out⟩
    · have h1i : (A : Int) < 1 := by omega
      obtain ⟨x0, x1, x2⟩ := cells3 HX.out
      go_enter Tryd.func21, Tryd.ntmps21
      go_wp2_with fail
      go_ret2
      exact ⟨⟨_, _, rfl, by unfold stp opnd; simp [h1]⟩, HBA.out⟩
  · by_cases hc : 1 ≤ h
    · have hc1 : 1 ≤ (h : Int) := by omega
      go_enter Tryd.func21, Tryd.ntmps21
      go_wp2_with fail
      go_ret2
      exact ⟨⟨_, _, rfl, by unfold stp opnd eff; simp [hc]⟩, HBA.out⟩
    · have hc1 : ¬ 1 ≤ (h : Int) := by omega
      go_enter Tryd.func21, Tryd.ntmps21
      go_wp2_with fail
      go_ret2
      exact ⟨⟨_, _, rfl, by unfold stp opnd eff; simp [hc]⟩, HBA.out⟩
  · by_cases hc : 1 ≤ h
    · have hc1 : 1 ≤ (h : Int) := by omega
      go_enter Tryd.func21, Tryd.ntmps21
      go_wp2_with fail
      go_ret2
      exact ⟨⟨_, _, rfl, by unfold stp opnd eff; simp [hc]⟩, HBA.out⟩
    · have hc1 : ¬ 1 ≤ (h : Int) := by omega
      go_enter Tryd.func21, Tryd.ntmps21
      go_wp2_with fail
      go_ret2
      exact ⟨⟨_, _, rfl, by unfold stp opnd eff; simp [hc]⟩, HBA.out⟩
end Go.Proofs.YtbimpoabiafdaaaDoor
