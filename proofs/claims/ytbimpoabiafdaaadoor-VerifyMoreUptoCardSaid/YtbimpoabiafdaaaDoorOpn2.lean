/- lists of truths, of texts, of numbers that came in -/
import Derived.Test.YtbimpoabiafdaaaDoorOpn
import Derived.Test.YtbimpoabiafdaaaDoorWWay
namespace Go.Proofs.YtbimpoabiafdaaaDoor
open Go Go.ChangeShapes Go.WideShapes Go.ChangeAt Go.RowKit Vf Go.Proofs.YtbimpoabiafdaaaDoor.Rows
theorem bools_of_trod {H : Type} {enc : TypeId × Value → H} {P : Program} {W : World} {base : Nat} {spare : Nat → Bool} {held : Bool} {n : Nat} {v : Value} {d : DataW H} {p : List MemPlace} {T E : TypeId} (hT : P.underlying T = some (.slice E)) (hE : P.underlying E = some .bool) (cE : P.cellsOf E = 1) (h : DataW.trod enc P W base spare held n T [v] = some (d, p)) :
    ∃ l, Bools W v l ∧ l.length ≤ uptoBulk d := by
  rcases Go.Deep.open_slice hT h with ⟨h1, h2⟩ | ⟨a, len, cap, m, n', D, Pl, hcs, hb, hl, hm, hmm, hx, hi⟩
  · simp only [List.cons.injEq, and_true] at h1
    exact ⟨[], .inl ⟨h1, rfl⟩, by simp⟩
  · have hlm : len ≤ m := by rw [hmm]; split <;> omega
    simp only [List.cons.injEq, and_true] at hcs
    simp only [Prod.mk.injEq] at hx
    have each : ∀ i, i < len → ∃ q : Bool, W.cell? (a.add i) = some (.bool q) := by
      intro i hil
      obtain ⟨cs', k1, k2⟩ := hi i (by omega)
      rw [cE, Nat.mul_one] at k1
      obtain ⟨_, hlen, hcell⟩ := World.cells?_some k1
      obtain ⟨b, hb1, _⟩ := DataW.trod_bool hE k2
      subst hb1
      have e0 := hcell 0 (by omega)
      rw [Go.Deep.add_add] at e0
      exact ⟨b, by simpa using e0⟩
    obtain ⟨q, hq⟩ := Go.Deep.choose_lt each
    refine ⟨(List.range len).map q, .inr ⟨a, cap, by rw [hcs]; simp, by simpa using hl, by unfold maxLen at hm; omega, ?_⟩, ?_⟩
    · intro k x hk
      simp only [List.getElem?_map, Option.map_eq_some_iff] at hk
      obtain ⟨j, hj, rfl⟩ := hk
      obtain ⟨hkl, hkj⟩ := List.getElem?_eq_some_iff.1 hj
      simp at hkl hkj
      subst hkj
      exact hq k hkl
    · rw [hx.1, uptoBulk]
      have := bulk_len ((List.range len).map D)
      simp at this ⊢
      omega
theorem c53 : Tryd.prog.cellsOf 53 = 1 := by kernel_rfl
set_option maxRecDepth 100000 in
theorem open_bools {H : Type} {enc : TypeId × Value → H} {W : World} {base : Nat} {v : Value} {d : DataW H} {p : List MemPlace}
    (hv : Value.okWide Tryd.prog W .any base 53 v) (h : DataW.Trod enc Tryd.prog W 0 (fun _ => true) true 53 v d p) : ∃ l, Bools W v l ∧ l.length ≤ uptoBulk d := by
  obtain ⟨a0, len, cap, rfl⟩ := okWide_slice Tryd.underlying53 hv
  obtain ⟨fuel, hf⟩ := h
  exact bools_of_trod Tryd.underlying53 Tryd.underlying4 c4 hf
theorem small_bools {H : Type} {ds : List (DataW H)} (hk : uptoSmall H ds = true) {j : Nat} {d : DataW H} {l : List Bool} (hd : ds[j]? = some d) (h : l.length ≤ uptoBulk d) : l.length ≤ 1048576 := by
  have h1 := small_le hk
  have h2 := bulk_get hd
  omega
set_option maxRecDepth 100000 in
theorem open_nums {H : Type} {enc : TypeId × Value → H} {W : World} {base : Nat} {v : Value} {d : DataW H} {p : List MemPlace}
    (hv : Value.okWide Tryd.prog W .any base 22 v) (h : DataW.Trod enc Tryd.prog W 0 (fun _ => true) true 22 v d p) : ∃ l, Ints W v l ∧ l.length ≤ uptoBulk d := by
  obtain ⟨a0, len, cap, rfl⟩ := okWide_slice Tryd.underlying22 hv
  obtain ⟨fuel, hf⟩ := h
  exact ints_of_trod Tryd.underlying22 Tryd.underlying3 c3 hf
theorem small_nums {H : Type} {ds : List (DataW H)} (hk : uptoSmall H ds = true) {j : Nat} {d : DataW H} {l : List Int} (hd : ds[j]? = some d) (h : l.length ≤ uptoBulk d) : l.length ≤ 1048576 := by
  have h1 := small_le hk
  have h2 := bulk_get hd
  omega
end Go.Proofs.YtbimpoabiafdaaaDoor
