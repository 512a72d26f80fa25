/- the package-level errors; concordnum.Num -/
import Derived.Test.YtgebekklkodpaaaDoorEnc
import Derived.LaidEql
import Derived.WideLaws
namespace Go.Proofs.YtgebekklkodpaaaDoor
open Go.RowKit

/-- the listed errors: each is a pointer to a block of its own -/
structure Errs (w : World) (E : Nat → Addr) (ids : List Nat) : Prop where
  cell : ∀ g ∈ ids, ErrAt w g (E g)
  blk : ∀ g ∈ ids, ∃ c t, w.heap[(E g).block]? = some (.cells c t (0, 0))
  inj : ∀ g ∈ ids, ∀ h ∈ ids, g ≠ h → E g ≠ E h
theorem Errs.below {B : Nat} {w w' : World} {E : Nat → Addr} {ids : List Nat} (h : Errs w E ids) (hb : Below B w w') (hB : w.heap.size ≤ B) (hg : ∀ g ∈ ids, g < B) : Errs w' E ids := by
  refine ⟨fun g hg' => err_below (h.cell g hg') hb (hg g hg'), fun g hg' => ?_, h.inj⟩
  obtain ⟨c, t, hc⟩ := h.blk g hg'
  exact ⟨c, t, (hb.block _ (Nat.lt_of_lt_of_le (heap_lt hc) hB)).trans hc⟩
theorem Errs.mono {w : World} {E : Nat → Addr} {ids js : List Nat} (h : Errs w E ids) (hs : ∀ g ∈ js, g ∈ ids) : Errs w E js :=
  ⟨fun g hg => h.cell g (hs g hg), fun g hg => h.blk g (hs g hg), fun g hg k hk => h.inj g (hs g hg) k (hs k hk)⟩

theorem comp124 : (Tryd.prog.info? 124).map (·.comparable) = some true := by kernel_rfl
theorem size140 : (Tryd.prog.info? 140).map (·.size) = some 1 := by kernel_rfl
theorem err_same (w : World) (a : Addr) : (binOp .eql 28 (.iface 124 (.pointer (some a))) (.iface 124 (.pointer (some a)))).run Tryd.prog w = .ok (.bool true) w := by
  have h1 := comp124
  have h2 := size140
  cases hi : Tryd.prog.info? 124 with
  | none => rw [hi] at h1; cases h1
  | some i =>
    cases hj : Tryd.prog.info? 140 with
    | none => rw [hj] at h2; cases h2
    | some j =>
      rw [hi] at h1
      exact run_eql_iface_ptr_same w a Tryd.underlying28 Tryd.underlying124 hi (by simpa using h1) hj
theorem err_other (w : World) {a b : Addr} {ca cb : Array Value} {ta tb : TypeId} (hne : a ≠ b) (ha : w.heap[a.block]? = some (.cells ca ta (0, 0))) (hb : w.heap[b.block]? = some (.cells cb tb (0, 0))) :
    (binOp .eql 28 (.iface 124 (.pointer (some a))) (.iface 124 (.pointer (some b)))).run Tryd.prog w = .ok (.bool false) w := by
  have h1 := comp124
  have h2 := size140
  cases hi : Tryd.prog.info? 124 with
  | none => rw [hi] at h1; cases h1
  | some i =>
    cases hj : Tryd.prog.info? 140 with
    | none => rw [hj] at h2; cases h2
    | some j =>
      rw [hi] at h1
      rw [hj] at h2
      exact run_eql_iface_ptr_other w Tryd.underlying28 Tryd.underlying124 hi (by simpa using h1) hj (by simp at h2; omega) hne ha hb
theorem Errs.eq_other {w : World} {E : Nat → Addr} {ids : List Nat} (h : Errs w E ids) (g k : Nat) (hg : g ∈ ids) (hk : k ∈ ids) (hne : g ≠ k) :
    (binOp .eql 28 (.iface 124 (.pointer (some (E g)))) (.iface 124 (.pointer (some (E k))))).run Tryd.prog w = .ok (.bool false) w := by
  obtain ⟨ca, ta, ha⟩ := h.blk g hg
  obtain ⟨cb, tb, hb⟩ := h.blk k hk
  exact err_other w (h.inj g hg k hk hne) ha hb

/-- all the errors -/
def allErrs : List Nat := [0, 1, 2, 3, 4, 5, 6, 7, 8, 9, 10, 11, 12, 13, 14, 17, 18, 19, 20, 21, 22, 23, 24, 25]

theorem num_nil (w : World) : Calls Tryd.prog 26 #[.nilIface] w fun e w' => e = .returned (.int .i64 0) ∧ w = w' := by
  go_enter Tryd.func26, Tryd.ntmps26
  go_wp2
  go_ret
  exact ⟨rfl, rfl⟩

set_option maxHeartbeats 400000 in
theorem num_1 (w : World) (E : Nat → Addr) (h : Errs w E allErrs) : Calls Tryd.prog 26 #[.iface 124 (.pointer (some (E 1)))] w fun e w' => e = .returned (.int .i64 1) ∧ w = w' := by
  have c1 : w.cell? ⟨1, 0, none⟩ = some (.iface 124 (.pointer (some (E 1)))) := h.cell 1 (by decide)
  have e1 := err_same w (E 1)
  generalize E 1 = a1 at *
  clear h
  go_enter Tryd.func26, Tryd.ntmps26
  go_wp2
  go_ret
  exact ⟨rfl, rfl⟩

set_option maxHeartbeats 400000 in
theorem num_2 (w : World) (E : Nat → Addr) (h : Errs w E allErrs) : Calls Tryd.prog 26 #[.iface 124 (.pointer (some (E 2)))] w fun e w' => e = .returned (.int .i64 2) ∧ w = w' := by
  have c1 : w.cell? ⟨1, 0, none⟩ = some (.iface 124 (.pointer (some (E 1)))) := h.cell 1 (by decide)
  have e1 := h.eq_other 2 1 (by decide) (by decide) (by decide)
  have c2 : w.cell? ⟨2, 0, none⟩ = some (.iface 124 (.pointer (some (E 2)))) := h.cell 2 (by decide)
  have e2 := err_same w (E 2)
  generalize E 1 = a1 at c1 e1
  generalize E 2 = a2 at *
  clear h
  go_enter Tryd.func26, Tryd.ntmps26
  go_wp2
  go_ret
  exact ⟨rfl, rfl⟩

set_option maxHeartbeats 400000 in
theorem num_5 (w : World) (E : Nat → Addr) (h : Errs w E allErrs) : Calls Tryd.prog 26 #[.iface 124 (.pointer (some (E 5)))] w fun e w' => e = .returned (.int .i64 5) ∧ w = w' := by
  have c1 : w.cell? ⟨1, 0, none⟩ = some (.iface 124 (.pointer (some (E 1)))) := h.cell 1 (by decide)
  have e1 := h.eq_other 5 1 (by decide) (by decide) (by decide)
  have c2 : w.cell? ⟨2, 0, none⟩ = some (.iface 124 (.pointer (some (E 2)))) := h.cell 2 (by decide)
  have e2 := h.eq_other 5 2 (by decide) (by decide) (by decide)
  have c3 : w.cell? ⟨3, 0, none⟩ = some (.iface 124 (.pointer (some (E 3)))) := h.cell 3 (by decide)
  have e3 := h.eq_other 5 3 (by decide) (by decide) (by decide)
  have c4 : w.cell? ⟨4, 0, none⟩ = some (.iface 124 (.pointer (some (E 4)))) := h.cell 4 (by decide)
  have e4 := h.eq_other 5 4 (by decide) (by decide) (by decide)
  have c5 : w.cell? ⟨5, 0, none⟩ = some (.iface 124 (.pointer (some (E 5)))) := h.cell 5 (by decide)
  have e5 := err_same w (E 5)
  generalize E 1 = a1 at c1 e1
  generalize E 2 = a2 at c2 e2
  generalize E 3 = a3 at c3 e3
  generalize E 4 = a4 at c4 e4
  generalize E 5 = a5 at *
  clear h
  go_enter Tryd.func26, Tryd.ntmps26
  go_wp2
  go_ret
  exact ⟨rfl, rfl⟩

set_option maxHeartbeats 400000 in
theorem num_0 (w : World) (E : Nat → Addr) (h : Errs w E allErrs) : Calls Tryd.prog 26 #[.iface 124 (.pointer (some (E 0)))] w fun e w' => e = .returned (.int .i64 6) ∧ w = w' := by
  have c1 : w.cell? ⟨1, 0, none⟩ = some (.iface 124 (.pointer (some (E 1)))) := h.cell 1 (by decide)
  have e1 := h.eq_other 0 1 (by decide) (by decide) (by decide)
  have c2 : w.cell? ⟨2, 0, none⟩ = some (.iface 124 (.pointer (some (E 2)))) := h.cell 2 (by decide)
  have e2 := h.eq_other 0 2 (by decide) (by decide) (by decide)
  have c3 : w.cell? ⟨3, 0, none⟩ = some (.iface 124 (.pointer (some (E 3)))) := h.cell 3 (by decide)
  have e3 := h.eq_other 0 3 (by decide) (by decide) (by decide)
  have c4 : w.cell? ⟨4, 0, none⟩ = some (.iface 124 (.pointer (some (E 4)))) := h.cell 4 (by decide)
  have e4 := h.eq_other 0 4 (by decide) (by decide) (by decide)
  have c5 : w.cell? ⟨5, 0, none⟩ = some (.iface 124 (.pointer (some (E 5)))) := h.cell 5 (by decide)
  have e5 := h.eq_other 0 5 (by decide) (by decide) (by decide)
  have c0 : w.cell? ⟨0, 0, none⟩ = some (.iface 124 (.pointer (some (E 0)))) := h.cell 0 (by decide)
  have e0 := err_same w (E 0)
  generalize E 1 = a1 at c1 e1
  generalize E 2 = a2 at c2 e2
  generalize E 3 = a3 at c3 e3
  generalize E 4 = a4 at c4 e4
  generalize E 5 = a5 at c5 e5
  generalize E 0 = a0 at *
  clear h
  go_enter Tryd.func26, Tryd.ntmps26
  go_wp2
  go_ret
  exact ⟨rfl, rfl⟩

set_option maxHeartbeats 400000 in
theorem num_6 (w : World) (E : Nat → Addr) (h : Errs w E allErrs) : Calls Tryd.prog 26 #[.iface 124 (.pointer (some (E 6)))] w fun e w' => e = .returned (.int .i64 7) ∧ w = w' := by
  have c1 : w.cell? ⟨1, 0, none⟩ = some (.iface 124 (.pointer (some (E 1)))) := h.cell 1 (by decide)
  have e1 := h.eq_other 6 1 (by decide) (by decide) (by decide)
  have c2 : w.cell? ⟨2, 0, none⟩ = some (.iface 124 (.pointer (some (E 2)))) := h.cell 2 (by decide)
  have e2 := h.eq_other 6 2 (by decide) (by decide) (by decide)
  have c3 : w.cell? ⟨3, 0, none⟩ = some (.iface 124 (.pointer (some (E 3)))) := h.cell 3 (by decide)
  have e3 := h.eq_other 6 3 (by decide) (by decide) (by decide)
  have c4 : w.cell? ⟨4, 0, none⟩ = some (.iface 124 (.pointer (some (E 4)))) := h.cell 4 (by decide)
  have e4 := h.eq_other 6 4 (by decide) (by decide) (by decide)
  have c5 : w.cell? ⟨5, 0, none⟩ = some (.iface 124 (.pointer (some (E 5)))) := h.cell 5 (by decide)
  have e5 := h.eq_other 6 5 (by decide) (by decide) (by decide)
  have c0 : w.cell? ⟨0, 0, none⟩ = some (.iface 124 (.pointer (some (E 0)))) := h.cell 0 (by decide)
  have e0 := h.eq_other 6 0 (by decide) (by decide) (by decide)
  have c6 : w.cell? ⟨6, 0, none⟩ = some (.iface 124 (.pointer (some (E 6)))) := h.cell 6 (by decide)
  have e6 := err_same w (E 6)
  generalize E 1 = a1 at c1 e1
  generalize E 2 = a2 at c2 e2
  generalize E 3 = a3 at c3 e3
  generalize E 4 = a4 at c4 e4
  generalize E 5 = a5 at c5 e5
  generalize E 0 = a0 at c0 e0
  generalize E 6 = a6 at *
  clear h
  go_enter Tryd.func26, Tryd.ntmps26
  go_wp2
  go_ret
  exact ⟨rfl, rfl⟩
end Go.Proofs.YtgebekklkodpaaaDoor
