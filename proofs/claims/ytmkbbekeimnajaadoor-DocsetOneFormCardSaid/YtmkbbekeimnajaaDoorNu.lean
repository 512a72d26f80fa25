/- the numbers of the errors; lists of numbers held against one another -/
import Derived.Test.YtmkbbekeimnajaaDoorMb
namespace Go.Proofs.YtmkbbekeimnajaaDoor
open Go.RowKit Ds
def allErrs : List Nat := [0, 1, 2, 3, 4, 5, 6, 7, 8, 9, 10, 11, 12, 13, 14, 16, 17, 18, 19, 20, 21, 22, 23, 24]
theorem ids_lt {B : Nat} (h : 25 ≤ B) : ∀ g ∈ allErrs, g < B := by
  intro g hg
  simp only [allErrs, List.mem_cons, List.not_mem_nil, or_false] at hg
  omega
set_option maxRecDepth 100000 in
theorem num_range (w : World) (E : Nat → Addr) (h : Errs w E allErrs) : Calls Tryd.prog 31 #[.iface 153 (.pointer (some (E 0)))] w fun e w' => e = .returned (.int .i64 8) ∧ w = w' := by
  have c2 : w.cell? ⟨2, 0, none⟩ = some (.iface 153 (.pointer (some (E 2)))) := h.cell 2 (by decide)
  have e2 := h.eq_other 0 2 (by decide) (by decide) (by decide)
  have c3 : w.cell? ⟨3, 0, none⟩ = some (.iface 153 (.pointer (some (E 3)))) := h.cell 3 (by decide)
  have e3 := h.eq_other 0 3 (by decide) (by decide) (by decide)
  have c4 : w.cell? ⟨4, 0, none⟩ = some (.iface 153 (.pointer (some (E 4)))) := h.cell 4 (by decide)
  have e4 := h.eq_other 0 4 (by decide) (by decide) (by decide)
  have c5 : w.cell? ⟨5, 0, none⟩ = some (.iface 153 (.pointer (some (E 5)))) := h.cell 5 (by decide)
  have e5 := h.eq_other 0 5 (by decide) (by decide) (by decide)
  have c6 : w.cell? ⟨6, 0, none⟩ = some (.iface 153 (.pointer (some (E 6)))) := h.cell 6 (by decide)
  have e6 := h.eq_other 0 6 (by decide) (by decide) (by decide)
  have c7 : w.cell? ⟨7, 0, none⟩ = some (.iface 153 (.pointer (some (E 7)))) := h.cell 7 (by decide)
  have e7 := h.eq_other 0 7 (by decide) (by decide) (by decide)
  have c8 : w.cell? ⟨8, 0, none⟩ = some (.iface 153 (.pointer (some (E 8)))) := h.cell 8 (by decide)
  have e8 := h.eq_other 0 8 (by decide) (by decide) (by decide)
  have c0 : w.cell? ⟨0, 0, none⟩ = some (.iface 153 (.pointer (some (E 0)))) := h.cell 0 (by decide)
  have e0 := err_same w (E 0)
  generalize E 2 = a2 at *
  generalize E 3 = a3 at *
  generalize E 4 = a4 at *
  generalize E 5 = a5 at *
  generalize E 6 = a6 at *
  generalize E 7 = a7 at *
  generalize E 8 = a8 at *
  generalize E 0 = a0 at *
  clear h
  go_enter Tryd.func31, Tryd.ntmps31
  go_wp2_with fail
  go_ret
  exact ⟨rfl, rfl⟩
set_option maxRecDepth 100000 in
theorem num_size (w : World) (E : Nat → Addr) (h : Errs w E allErrs) : Calls Tryd.prog 31 #[.iface 153 (.pointer (some (E 9)))] w fun e w' => e = .returned (.int .i64 9) ∧ w = w' := by
  have c2 : w.cell? ⟨2, 0, none⟩ = some (.iface 153 (.pointer (some (E 2)))) := h.cell 2 (by decide)
  have e2 := h.eq_other 9 2 (by decide) (by decide) (by decide)
  have c3 : w.cell? ⟨3, 0, none⟩ = some (.iface 153 (.pointer (some (E 3)))) := h.cell 3 (by decide)
  have e3 := h.eq_other 9 3 (by decide) (by decide) (by decide)
  have c4 : w.cell? ⟨4, 0, none⟩ = some (.iface 153 (.pointer (some (E 4)))) := h.cell 4 (by decide)
  have e4 := h.eq_other 9 4 (by decide) (by decide) (by decide)
  have c5 : w.cell? ⟨5, 0, none⟩ = some (.iface 153 (.pointer (some (E 5)))) := h.cell 5 (by decide)
  have e5 := h.eq_other 9 5 (by decide) (by decide) (by decide)
  have c6 : w.cell? ⟨6, 0, none⟩ = some (.iface 153 (.pointer (some (E 6)))) := h.cell 6 (by decide)
  have e6 := h.eq_other 9 6 (by decide) (by decide) (by decide)
  have c7 : w.cell? ⟨7, 0, none⟩ = some (.iface 153 (.pointer (some (E 7)))) := h.cell 7 (by decide)
  have e7 := h.eq_other 9 7 (by decide) (by decide) (by decide)
  have c8 : w.cell? ⟨8, 0, none⟩ = some (.iface 153 (.pointer (some (E 8)))) := h.cell 8 (by decide)
  have e8 := h.eq_other 9 8 (by decide) (by decide) (by decide)
  have c0 : w.cell? ⟨0, 0, none⟩ = some (.iface 153 (.pointer (some (E 0)))) := h.cell 0 (by decide)
  have e0 := h.eq_other 9 0 (by decide) (by decide) (by decide)
  have c9 : w.cell? ⟨9, 0, none⟩ = some (.iface 153 (.pointer (some (E 9)))) := h.cell 9 (by decide)
  have e9 := err_same w (E 9)
  generalize E 2 = a2 at *
  generalize E 3 = a3 at *
  generalize E 4 = a4 at *
  generalize E 5 = a5 at *
  generalize E 6 = a6 at *
  generalize E 7 = a7 at *
  generalize E 8 = a8 at *
  generalize E 0 = a0 at *
  generalize E 9 = a9 at *
  clear h
  go_enter Tryd.func31, Tryd.ntmps31
  go_wp2_with fail
  go_ret
  exact ⟨rfl, rfl⟩
set_option maxRecDepth 100000 in
theorem num_corrupt (w : World) (E : Nat → Addr) (h : Errs w E allErrs) : Calls Tryd.prog 31 #[.iface 153 (.pointer (some (E 1)))] w fun e w' => e = .returned (.int .i64 10) ∧ w = w' := by
  have c2 : w.cell? ⟨2, 0, none⟩ = some (.iface 153 (.pointer (some (E 2)))) := h.cell 2 (by decide)
  have e2 := h.eq_other 1 2 (by decide) (by decide) (by decide)
  have c3 : w.cell? ⟨3, 0, none⟩ = some (.iface 153 (.pointer (some (E 3)))) := h.cell 3 (by decide)
  have e3 := h.eq_other 1 3 (by decide) (by decide) (by decide)
  have c4 : w.cell? ⟨4, 0, none⟩ = some (.iface 153 (.pointer (some (E 4)))) := h.cell 4 (by decide)
  have e4 := h.eq_other 1 4 (by decide) (by decide) (by decide)
  have c5 : w.cell? ⟨5, 0, none⟩ = some (.iface 153 (.pointer (some (E 5)))) := h.cell 5 (by decide)
  have e5 := h.eq_other 1 5 (by decide) (by decide) (by decide)
  have c6 : w.cell? ⟨6, 0, none⟩ = some (.iface 153 (.pointer (some (E 6)))) := h.cell 6 (by decide)
  have e6 := h.eq_other 1 6 (by decide) (by decide) (by decide)
  have c7 : w.cell? ⟨7, 0, none⟩ = some (.iface 153 (.pointer (some (E 7)))) := h.cell 7 (by decide)
  have e7 := h.eq_other 1 7 (by decide) (by decide) (by decide)
  have c8 : w.cell? ⟨8, 0, none⟩ = some (.iface 153 (.pointer (some (E 8)))) := h.cell 8 (by decide)
  have e8 := h.eq_other 1 8 (by decide) (by decide) (by decide)
  have c0 : w.cell? ⟨0, 0, none⟩ = some (.iface 153 (.pointer (some (E 0)))) := h.cell 0 (by decide)
  have e0 := h.eq_other 1 0 (by decide) (by decide) (by decide)
  have c9 : w.cell? ⟨9, 0, none⟩ = some (.iface 153 (.pointer (some (E 9)))) := h.cell 9 (by decide)
  have e9 := h.eq_other 1 9 (by decide) (by decide) (by decide)
  have c1 : w.cell? ⟨1, 0, none⟩ = some (.iface 153 (.pointer (some (E 1)))) := h.cell 1 (by decide)
  have e1 := err_same w (E 1)
  generalize E 2 = a2 at *
  generalize E 3 = a3 at *
  generalize E 4 = a4 at *
  generalize E 5 = a5 at *
  generalize E 6 = a6 at *
  generalize E 7 = a7 at *
  generalize E 8 = a8 at *
  generalize E 0 = a0 at *
  generalize E 9 = a9 at *
  generalize E 1 = a1 at *
  clear h
  go_enter Tryd.func31, Tryd.ntmps31
  go_wp2_with fail
  go_ret
  exact ⟨rfl, rfl⟩
theorem neq_ints {xs ys : List Int} (hl : xs.length = ys.length) (h : xs ≠ ys) : ∃ i x y, xs[i]? = some x ∧ ys[i]? = some y ∧ x ≠ y ∧ xs.take i = ys.take i := by
  induction xs generalizing ys with
  | nil => cases ys with
    | nil => exact absurd rfl h
    | cons y r => simp at hl
  | cons x l ih => cases ys with
    | nil => simp at hl
    | cons y r =>
      by_cases hxy : x = y
      · subst hxy
        obtain ⟨i, a, b, h1, h2, h3, h4⟩ := ih (by simpa using hl) (fun e => h (by rw [e]))
        exact ⟨i + 1, a, b, by simpa using h1, by simpa using h2, h3, by simpa using h4⟩
      · exact ⟨0, x, y, rfl, rfl, hxy, rfl⟩
set_option maxRecDepth 100000 in
set_option maxHeartbeats 2000000 in
/-- slices.Equal of numbers -/
theorem ints_equal (w : World) (a1 a2 : Option Addr) (c1 c2 : Nat) (xs ys : List Int) (h1 : Ints w (.slice a1 xs.length c1) xs) (h2 : Ints w (.slice a2 ys.length c2) ys) (hl : xs.length ≤ 1152921504606846976) :
    Calls Tryd.prog 23 #[.slice a1 xs.length c1, .slice a2 ys.length c2] w fun e w' => e = .returned (.bool (decide (xs = ys))) ∧ ∃ q, w' = w.drewN q := by
  have H1 := hide h1
  have H2 := hide h2
  clear h1 h2
  by_cases hn : xs.length = ys.length
  · have hni : ((xs.length : Int) == (ys.length : Int)) = true := by simp; omega
    have HN := hide hn
    rw [← hn]
    rw [← hn] at H2 hni
    clear hn
    obtain ⟨n, hnn⟩ : ∃ n, xs.length = n := ⟨_, rfl⟩
    have HNN := hide hnn
    rw [hnn] at H1 H2 hl hni ⊢
    clear hnn
    go_enter Tryd.func23, Tryd.ntmps23
    go_wp2_with fail
    go_loopw [13] (fun k wr => ∃ i d : Nat, k = .int .i64 (i : Nat) ∧ i ≤ n ∧ xs.take i = ys.take i ∧ wr = w.drewN d) (fun k _ => n - (intOf k).toNat)
    case atStart => exact ⟨0, 0, rfl, by omega, rfl, rfl⟩
    case round =>
      obtain ⟨i, d, rfl, hi, htk, rfl⟩ := hrel
      have HTK := hide htk
      clear htk
      by_cases hlt : i < n
      · obtain ⟨x, hx⟩ : ∃ x, xs[i]? = some x := ⟨_, List.getElem?_eq_getElem (by have := HNN.out; omega)⟩
        obtain ⟨y, hy⟩ : ∃ y, ys[i]? = some y := ⟨_, List.getElem?_eq_getElem (by have := HNN.out; have := HN.out; omega)⟩
        obtain ⟨ad1, rfl, hc1⟩ := ints_get H1.out hx
        obtain ⟨ad2, rfl, hc2⟩ := ints_get H2.out hy
        have hi1 : (i : Int) < (n : Int) := by omega
        have hc1 : (w.drewN d).cell? (ad1.add i) = some (.int .i64 x) := hc1
        have hc2 : (w.drewN d).cell? (ad2.add i) = some (.int .i64 y) := hc2
        generalize hwq : w.drewN d = wq at hc1 hc2 ⊢
        have HWQ := hide hwq
        have HX := hide hx
        have HY := hide hy
        clear hwq hx hy
        by_cases hxy : x = y
        · subst hxy
          have HT2 := hide (show xs.take (i + 1) = ys.take (i + 1) from by rw [List.take_add_one, List.take_add_one, HX.out, HY.out, HTK.out])
          go_wp2_with fail
          go_quiet (fail)
          go_wp2_with fail
          exact ⟨⟨i + 1, d + nq, by simp, by omega, HT2.out, by rw [← HWQ.out, World.drewN_drewN]⟩, by simp [intOf]; omega⟩
        · have hxi : (x == y) = false := by simpa using hxy
          have HNE := hide (show decide (xs = ys) = false from decide_eq_false (fun e => hxy (by
            have h3 := HX.out
            rw [e, HY.out] at h3
            exact (Option.some.inj h3).symm)))
          clear hxy
          go_wp2_with fail
          go_quiet (fail)
          go_wp2_with fail
          go_ret
          exact ⟨by rw [HNE.out]; rfl, d + nq, by rw [← HWQ.out, World.drewN_drewN]⟩
      · obtain rfl : i = n := by omega
        have HEQ := hide (show decide (xs = ys) = true from decide_eq_true (by
          have h3 := HTK.out
          rw [List.take_of_length_le (by have := HNN.out; omega), List.take_of_length_le (by have := HNN.out; have := HN.out; omega)] at h3
          exact h3))
        go_wp2_with fail
        go_ret
        exact ⟨by rw [HEQ.out]; rfl, d, rfl⟩
  · have hni : ((xs.length : Int) == (ys.length : Int)) = false := by simp; omega
    have HNE := hide (show decide (xs = ys) = false from decide_eq_false (fun e => hn (by rw [e])))
    clear hn
    go_enter Tryd.func23, Tryd.ntmps23
    go_wp2_with fail
    go_ret
    exact ⟨by rw [HNE.out]; rfl, 0, rfl⟩
end Go.Proofs.YtmkbbekeimnajaaDoor
