/- the law's own words at the start of each law: a set of four numbers -/
import Derived.Test.YtmkbbekeimnajaaDoorEn
import Derived.Test.YtmkbbekeimnajaaDoorMb
import Derived.Test.YtmkbbekeimnajaaDoorNu
namespace Go.Proofs.YtmkbbekeimnajaaDoor
open Go.RowKit Ds
theorem fx_cnt : cnt (mOf [7, 2, 2, 3]) 10 = 3 := by decide
theorem fx_mem : mI (mOf [7, 2, 2, 3]) 10 = [2, 3, 7] := by decide
theorem fx_enc : Uv.uv 10 ++ body 10 (mOf [7, 2, 2, 3]) (nb 10) = [10, 4, 140, 0] := by decide
theorem ints_own {w : World} {B : Nat} {v : Value} {zs : List Int} (h : w.ownsRow B 3 1 v zs.length (intCells zs)) : Ints w v zs := by
  rcases Joins.ownsRow_forms h with ⟨rfl, h0⟩ | ⟨g, cap, rfl⟩
  · exact .inl ⟨rfl, List.eq_nil_of_length_eq_zero h0⟩
  · refine .inr ⟨_, cap, rfl, ?_, ?_, fun k x hk => ?_⟩
    · rcases h.2 with ⟨h0, _⟩ | ⟨g', cap', cur, hv, _, _, hl, _⟩
      · cases h0
      · simp only [Value.slice.injEq] at hv; omega
    · rcases h.2 with ⟨h0, _⟩ | ⟨g', cap', cur, hv, _, _, _, hm, _⟩
      · cases h0
      · simp only [Value.slice.injEq] at hv; unfold maxLen at hm; omega
    · exact h.cells rfl k _ (by simp [intCells, hk])
set_option maxRecDepth 100000 in
set_option maxHeartbeats 2000000 in
theorem fixed_any (w : World) (E : Nat → Addr) (h : Errs w E allErrs) (hT : DeBr w) (hg : 25 ≤ w.heap.size) :
    Calls Tryd.prog 11 #[] w fun e w' => e = .returned (.bool true) ∧ Below w.heap.size w w' := by
  have HE := hide h
  have HT := hide hT
  clear h hT
  go_enter Tryd.func11, Tryd.ntmps11
  go_wp2_with fail
  have hz : Ints (w.alloc (.cells #[.int .i64 7, .int .i64 2, .int .i64 2, .int .i64 3] 3)) (.slice (some ⟨w.heap.size, 0, none⟩) 4 4) [7, 2, 2, 3] :=
    .inr ⟨_, 4, rfl, by decide, by decide, fun k x hk => by
      rw [Addr.add_mid, Nat.zero_add, cell_at (heap_new rfl _)]
      match k, hk with
      | 0, hk | 1, hk | 2, hk | 3, hk => simp at hk; subst hk; rfl⟩
  have HB1 := hide ((Below.refl w.heap.size w).alloc (Nat.le_refl _) (.cells #[.int .i64 7, .int .i64 2, .int .i64 2, .int .i64 3] 3))
  have HER := hide (show ErrAt w 0 (E 0) from HE.out.cell 0 (by decide))
  refine (of_any _ 10 _ 4 [7, 2, 2, 3] hz (by decide) (E 0) (err_below HER.out HB1.out (by omega)) (by simp)).mono ?_
  rintro e w2 ⟨hof, hb2⟩
  have HB2 := hide (HB1.out.trans (hb2.mono (by simp)))
  have hs2 := HB2.out.size
  clear hb2 hz HB1
  rcases hof with ⟨N, S, g, cap, hN, _, _, rfl, _, _, hs⟩ | ⟨hno, _⟩
  · have hN10 : N = 10 := by omega
    subst hN10
    have HS := hide hs
    have HER2 := hide (err_below HER.out HB2.out (by omega))
    clear hs hN
    go_wp2_with fail
    refine (count_any w2 HS.out).mono ?_
    rintro e w3 ⟨rfl, rfl⟩
    rw [fx_cnt]
    go_wp2_with fail
    refine (new_bad w2 1048577 (by omega) (E 0) HER2.out).mono ?_
    rintro e w3 ⟨rfl, q3, rfl⟩
    have HS4 := hide (HS.out.keep (below_drewN (Below.refl _ w2) q3))
    have HB4 := hide (below_drewN HB2.out q3)
    generalize w2.drewN q3 = w4 at *
    have hs4 := HB4.out.size
    have HE4 := hide (HE.out.below HB4.out (Nat.le_refl _) (ids_lt hg))
    have HT4 := hide (debr_below HT.out HB4.out (by omega))
    clear HS HB2 HER2 HT HE
    go_wp2_with fail
    refine (num_range w4 E HE4.out).mono ?_
    rintro e w5 ⟨rfl, rfl⟩
    go_wp2_with fail
    refine (encode_any w4 HS4.out).mono ?_
    rintro e w5 ⟨q, _, rfl, hh, hb5⟩
    rw [fx_enc] at hh
    rw [fx_enc]
    have hb5' := hb5.mono hs4
    have HS5 := hide (HS4.out.keep hb5)
    have HT5 := hide (debr_below HT4.out hb5 (by omega))
    have HB5 := hide (HB4.out.trans hb5')
    have hs5 := HB5.out.size
    have hX : Src (w5.alloc (.cells (u8s [10, 4, 140, 0]).toArray 5)) (.slice (some ⟨w5.heap.size, 0, none⟩) 4 4) [10, 4, 140, 0] := src_block (heap_new rfl _) (by decide) (by decide)
    have hY : Src (w5.alloc (.cells (u8s [10, 4, 140, 0]).toArray 5)) (.slice (some ⟨q, 0, none⟩) 4 4) [10, 4, 140, 0] := src_block (heap_old hh _) (by decide) (by decide)
    have HBE := hide (bytes_equal _ _ _ _ _ hY hX)
    clear hh hb5 hb5' hX hY HS4 HT4
    go_wp2_with fail
    refine HBE.out.mono ?_
    rintro e w6 ⟨rfl, rfl⟩
    rw [show decide True = true from rfl]
    have HB6 := hide (HB5.out.alloc hs5 (.cells (u8s [10, 4, 140, 0]).toArray 5))
    have HS6 := hide (HS5.out.keep ((Below.refl w5.heap.size w5).alloc (Nat.le_refl _) (.cells (u8s [10, 4, 140, 0]).toArray 5)))
    have HT6 := hide (debr_below HT5.out ((Below.refl w5.heap.size w5).alloc (Nat.le_refl _) (.cells (u8s [10, 4, 140, 0]).toArray 5)) (by omega))
    have hq6 : 15 < (w5.alloc (.cells (u8s [10, 4, 140, 0]).toArray 5)).heap.size := by rw [World.size_alloc]; omega
    have HM := hide (members_any _ HS6.out HT6.out hq6)
    rw [fx_cnt, fx_mem] at HM
    go_wp2_with fail
    refine HM.out.mono ?_
    rintro e w7 ⟨v7, rfl, ho7, hb7⟩
    have HI7 := hide (ints_own ho7)
    have HB7 := hide (HB6.out.trans (hb7.mono HB6.out.size))
    have hs7 := HB7.out.size
    obtain ⟨ao7, c7, rfl⟩ := row_shape ho7
    have hI8 : Ints (w7.alloc (.cells (intCells [2, 3, 7]).toArray 3)) (.slice (some ⟨w7.heap.size, 0, none⟩) 3 3) [2, 3, 7] :=
      .inr ⟨_, 3, rfl, by decide, by decide, fun k x hk => by
        rw [Addr.add_mid, Nat.zero_add, cell_at (heap_new rfl _)]
        match k, hk with
        | 0, hk | 1, hk | 2, hk => simp at hk; subst hk; rfl⟩
    have HI9 := hide (ints_keep HI7.out ((Below.refl w7.heap.size w7).alloc (Nat.le_refl _) (.cells (intCells [2, 3, 7]).toArray 3)))
    have HQ := hide (ints_equal _ ao7 (some ⟨w7.heap.size, 0, none⟩) c7 3 [2, 3, 7] [2, 3, 7] HI9.out hI8 (by decide))
    clear ho7 hb7 hI8 HI7 HI9 HBE HM
    go_wp2_with fail
    refine HQ.out.mono ?_
    rintro e w8 ⟨rfl, q8, rfl⟩
    have HB8 := hide (below_drewN (HB7.out.alloc hs7 (.cells (intCells [2, 3, 7]).toArray 3)) q8)
    go_wp2_with fail
    go_ret
    exact ⟨rfl, HB8.out⟩
  · exact absurd ⟨by decide, by decide, by decide⟩ hno
end Go.Proofs.YtmkbbekeimnajaaDoor
