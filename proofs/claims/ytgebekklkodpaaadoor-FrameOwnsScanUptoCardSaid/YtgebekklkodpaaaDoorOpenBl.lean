/- a list of blocks that came in -/
import Derived.Test.YtgebekklkodpaaaDoorUpto
import Derived.Test.YtgebekklkodpaaaDoorBlk
import Derived.Deep.SlicePairs
namespace Go.Proofs.YtgebekklkodpaaaDoor
open Go.ChangeShapes Go.WideShapes Go.ChangeAt Go.RowKit Go.Proofs.YtgebekklkodpaaaDoor.Rows

theorem tot_bulk {H : Type} (l : List Nat) (g : Nat → Bl) (D : Nat → DataW H) (h : ∀ i ∈ l, (g i).2.length + 15 ≤ 15 * uptoBulk (D i)) : tot (l.map g) ≤ 15 * uptoBulkAll (l.map D) := by
  induction l with
  | nil => simp [tot, uptoBulkAll]
  | cons i r ih =>
    have h1 := h i (by simp)
    have h2 := ih (fun j hj => h j (by simp [hj]))
    simp only [tot, List.map_cons, List.sum_cons, uptoBulkAll] at *
    omega

theorem blocks_of_trod {H : Type} {enc : TypeId × Value → H} {P : Program} {T E U S : TypeId} {f0 f1 : Field} {W : World} {base : Nat} {spare : Nat → Bool} {held : Bool} {n : Nat} {v : Value} {d : DataW H} {p : List MemPlace}
    (hT : P.underlying T = some (.slice E)) (hE : P.underlying E = some (.struct #[f0, f1])) (cE : P.cellsOf E = 2) (o0 : f0.offset = 0) (o1 : f1.offset = 1)
    (t0 : f0.type = U) (t1 : f1.type = S) (hU : P.underlying U = some (.int .u8)) (cU : P.cellsOf U = 1) (hS : P.underlying S = some (.slice U)) (cS : P.cellsOf S = 1)
    (h : DataW.trod enc P W base spare held n T [v] = some (d, p)) :
    ∃ bl : List Bl, Blocks W v bl ∧ tot bl ≤ 15 * uptoBulk d := by
  rcases Go.Deep.open_slice_pairs hT hE cE o0 o1 (by rw [t0]; exact cU) (by rw [t1]; exact cS) h with ⟨h1, h2⟩ | ⟨a, len, cap, m, n', V0, V1, D0, D1, P0, P1, hcs, hb, hl, hm, hmm, hx, hi⟩
  · simp only [List.cons.injEq, and_true] at h1
    simp only [Prod.mk.injEq] at h2
    exact ⟨[], .inl ⟨h1, rfl⟩, by simp [tot]⟩
  · have hlm : len ≤ m := by rw [hmm]; split <;> omega
    simp only [List.cons.injEq, and_true] at hcs
    simp only [Prod.mk.injEq] at hx
    rw [t0, t1] at hi
    have each : ∀ i, i < len → ∃ q : Bl, BlkAt W (a.add (2 * i)) q ∧ q.2.length + 1 ≤ uptoBulk (D1 i) := by
      intro i hil
      obtain ⟨c0, c1, r0, r1⟩ := hi i (by omega)
      obtain ⟨z, hz, _, hw⟩ := DataW.trod_int hU r0
      simp only [List.cons.injEq, and_true] at hz
      simp [Lit.wf, IntKind.min, IntKind.max, IntKind.signed, IntKind.bits] at hw
      obtain ⟨bs, hsrc, hd⟩ := bytes_of_trod hS hU cU r1
      refine ⟨(z.toNat, bs), ⟨by simp only; omega, V1 i, ?_, ?_, hsrc⟩, ?_⟩
      · rw [Nat.mul_comm, c0, hz]
        simp only
        rw [Int.toNat_of_nonneg (by omega)]
      · rw [Nat.mul_comm, Go.Deep.add_add]
        exact c1
      · rcases hd with ⟨hd, rfl⟩ | ⟨elems, sp, hd, he⟩
        · rw [hd]; simp [uptoBulk]
        · rw [hd, uptoBulk]
          have := bulk_len elems
          simp only
          omega
    obtain ⟨q, hq⟩ := Go.Deep.choose_lt each
    refine ⟨(List.range len).map q, .inr ⟨a, cap, by rw [hcs]; simp, by simpa using hl, by unfold maxLen at hm; omega, ?_⟩, ?_⟩
    · intro k x hk
      simp only [List.getElem?_map, Option.map_eq_some_iff] at hk
      obtain ⟨j, hj, rfl⟩ := hk
      obtain ⟨hkl, hkj⟩ := List.getElem?_eq_some_iff.1 hj
      simp at hkl hkj
      subst hkj
      exact (hq k hkl).1
    · rw [hx.1, uptoBulk]
      have := tot_bulk (List.range len) q (fun i => DataW.agg [D0 i, D1 i]) (fun i hi' => by
        have h1 := (hq i (List.mem_range.1 hi')).2
        have h2 := bulk_pos (D0 i)
        simp only [uptoBulk, uptoBulkAll]
        omega)
      omega

theorem c38 : Tryd.prog.cellsOf 38 = 1 := by kernel_rfl
theorem c25 : Tryd.prog.cellsOf 25 = 1 := by kernel_rfl
theorem c47 : Tryd.prog.cellsOf 47 = 2 := by kernel_rfl
set_option maxRecDepth 100000 in
theorem open_blocks {H : Type} {enc : TypeId × Value → H} {W : World} {base : Nat} {v : Value} {d : DataW H} {p : List MemPlace}
    (hv : Value.okWide Tryd.prog W .any base 38 v) (h : DataW.Trod enc Tryd.prog W 0 (fun _ => true) true 38 v d p) :
    ∃ bl : List Bl, Blocks W v bl ∧ tot bl ≤ 15 * uptoBulk d := by
  obtain ⟨a0, len, cap, rfl⟩ := okWide_slice Tryd.underlying38 hv
  obtain ⟨fuel, hf⟩ := h
  exact blocks_of_trod Tryd.underlying38 Tryd.underlying47 c47 rfl rfl rfl rfl Tryd.underlying5 c5 Tryd.underlying25 c25 hf
theorem small_tot {H : Type} {ds : List (DataW H)} (hk : uptoSmall H ds = true) {j : Nat} {d : DataW H} {bl : List Bl} (hd : ds[j]? = some d) (h : tot bl ≤ 15 * uptoBulk d) : tot bl ≤ 15728640 := by
  have h1 := small_le hk
  have h2 := bulk_get hd
  omega
end Go.Proofs.YtgebekklkodpaaaDoor
