/- texts of this proof, one behind the other: En Fx Eq Rs Ru -/
import Derived.Test.YtmkbbekeimnajaaDoorMPlays0
import Derived.Test.YtmkbbekeimnajaaDoorMPlays1
import Derived.Test.YtmkbbekeimnajaaDoorMPlays2
import Derived.Test.YtmkbbekeimnajaaDoorMPlays3
import Derived.Test.YtmkbbekeimnajaaDoorMPlays4
/-! En: a set's bytes -/
namespace Go.Proofs.YtmkbbekeimnajaaDoor
open Go.RowKit Ds
theorem writer_keep {w w' : World} {B p : Nat} {bs : List Nat} (h : WriterIs w B p bs) (hb : Below w.heap.size w w') : WriterIs w' B p bs := by
  obtain ⟨hB, v, hp, hv⟩ := h
  exact ⟨hB, v, (hb.block p (heap_lt hp)).trans hp, row_kept hv (grown_of_below hb) (notTy_none _ _)⟩
theorem bits_octs (f : Nat → Bool) {b : Nat} (hb : b ≤ 256) (hf : ∀ i, b ≤ i → i < 256 → f i = false) (k x : Nat) (h : (bitsB f b)[k]? = some x) : (octs f)[k]? = some (.int .u8 (x : Nat)) := by
  unfold bitsB at h
  rw [List.getElem?_map, Option.map_eq_some_iff] at h
  obtain ⟨k', hk, rfl⟩ := h
  obtain ⟨hk, hkk⟩ := List.getElem?_eq_some_iff.1 hk
  rw [List.length_range] at hk
  rw [List.getElem_range] at hkk
  subst hkk
  rw [octs_get f (by omega)]
  congr 2
  unfold oct
  rw [num_congr (g := fun i => decide (8 * k + i < b) && f (8 * k + i))]
  intro i hi
  by_cases h : 8 * k + i < b
  · simp [h]
  · simp [h, hf (8 * k + i) (by omega) (by omega)]
theorem src_bits {w : World} {g : Nat} {f : Nat → Bool} {b : Nat} {fr : Nat × Nat} (hA : w.heap[g]? = some (.cells (octs f).toArray 89 fr)) (hb : b ≤ 256) (hf : ∀ i, b ≤ i → i < 256 → f i = false) :
    Src w (.slice (some ⟨g, 0, none⟩) ((b + 7) / 8 : Nat) 32) (bitsB f b) := by
  refine ⟨fun x hx => ?_, .inr ⟨⟨g, 0, none⟩, 32, by rw [bitsB_len], by rw [bitsB_len]; omega, by omega, fun k x hk => ?_⟩⟩
  · obtain ⟨k, hk, rfl⟩ := List.mem_map.1 hx
    exact num8_lt _
  · rw [Addr.add_mid, Nat.zero_add, cell_at hA]
    have := bits_octs f hb hf k x hk
    simpa using this
def zeros : Obj := .cells #[.int .u8 0, .int .u8 0, .int .u8 0, .int .u8 0, .int .u8 0, .int .u8 0, .int .u8 0, .int .u8 0, .int .u8 0, .int .u8 0, .int .u8 0, .int .u8 0, .int .u8 0, .int .u8 0, .int .u8 0, .int .u8 0, .int .u8 0, .int .u8 0, .int .u8 0, .int .u8 0, .int .u8 0, .int .u8 0, .int .u8 0, .int .u8 0, .int .u8 0, .int .u8 0, .int .u8 0, .int .u8 0, .int .u8 0, .int .u8 0, .int .u8 0, .int .u8 0] 89
set_option maxRecDepth 100000 in
set_option maxHeartbeats 2000000 in
theorem encode_any (w : World) {S g cap n : Nat} {m : Nat → Bool} (h : SetAt w S g cap n m) :
    Calls Tryd.prog 24 #[.pointer (some ⟨S, 0, none⟩)] w fun e w' => ∃ q, w.heap.size ≤ q ∧ e = .returned (.slice (some ⟨q, 0, none⟩) (Uv.uv n ++ body n m (nb n)).length (Uv.uv n ++ body n m (nb n)).length) ∧
      w'.heap[q]? = some (.cells (u8s (Uv.uv n ++ body n m (nb n))).toArray 5 (0, 0)) ∧ Below w.heap.size w w' := by
  obtain ⟨c0, c1, c2⟩ := cells3 h.hd
  have hsm := h.small
  have HS := hide h
  clear h
  go_enter Tryd.func24, Tryd.ntmps24
  go_wp2_with fail
  refine (new_writer w).mono ?_
  rintro e w1 ⟨rfl, hw1, hb1⟩
  have HW1 := hide hw1
  have HB1 := hide hb1
  have c0' := (hb1.cell (p := ⟨S, 0, none⟩) (heap_lt HS.out.hd)).trans c0
  clear hw1 hb1
  go_wp2_with fail
  refine (writer_uvarint w1 w.heap.size w.heap.size n [] (by unfold Uv.u64; omega) HW1.out (by simp)).mono ?_
  rintro e w2 ⟨rfl, hw2, hb2⟩
  have HW2 := hide (show WriterIs w2 w.heap.size w.heap.size (Uv.uv n ++ body n m 0) from by rw [body_zero, List.append_nil]; simpa using hw2)
  have HB2 := hide (HB1.out.trans hb2)
  clear hw2 hb2 HW1 HB1 c0' c0 c1 c2
  go_wp2_with fail
  go_loopw [4] (fun k wr => ∃ j : Nat, k = .int .i64 (j : Nat) ∧ j ≤ nb n ∧ WriterIs wr w.heap.size w.heap.size (Uv.uv n ++ body n m j) ∧ Below w.heap.size w wr) (fun k _ => nb n - (intOf k).toNat)
  case atStart => exact ⟨0, rfl, by omega, HW2.out, HB2.out⟩
  case round =>
    obtain ⟨j, rfl, hj, hw, hb⟩ := hrel
    have HW := hide hw
    have HBr := hide hb
    have hsr := hb.size
    clear hw hb HW2 HB2
    obtain ⟨c0, c1, c2⟩ := cells3 (HS.out.keep HBr.out).hd
    have hbl := body_len n m j
    have hul := Uv.uv_len n
    have hjn : j ≤ 4096 := by unfold nb at hj; omega
    have hwj : IntKind.i64.wrap (256 * (j : Int)) = 256 * (j : Int) := by rw [IntKind.wrap_i64]; omega
    by_cases hlt : 256 * j < n
    · have hi1 : 256 * (j : Int) < (n : Int) := by omega
      have hj1 : j + 1 ≤ nb n := by unfold nb; omega
      have hBO := block_of wr (HS.out.keep HBr.out) j hlt
      have hbs := body_succ n m j
      have hcl := cnt_le (blk m j) (wid n j)
      have hwl := wid_le n j
      have hpos : 0 < wid n j := wid_pos (nb_lt.2 hlt)
      have hoff : ∀ i, wid n j ≤ i → i < 256 → blk m j i = false := fun i h1 h2 => by
        unfold wid at h1
        exact HS.out.off _ (by omega)
      unfold encB at hbs
      obtain ⟨f, hf⟩ : ∃ f, blk m j = f := ⟨_, rfl⟩
      obtain ⟨b, hb⟩ : ∃ b, wid n j = b := ⟨_, rfl⟩
      rw [hf, hb] at hBO hbs hcl hoff
      rw [hb] at hwl hpos
      obtain ⟨c, hc⟩ : ∃ c, cnt f b = c := ⟨_, rfl⟩
      have hform := form_len f b hwl
      have hfm : form f b = form f b := rfl
      conv at hfm => rhs; unfold form
      rw [hc] at hBO hcl hfm
      have hcs := tagOf_cases b c
      have HTA := fun w => hide (tag_any w b c hwl hcl)
      obtain ⟨t, ht⟩ : ∃ t, tagOf b c = t := ⟨_, rfl⟩
      rw [ht] at hcs hfm HTA
      have HC := hide hc
      have HBS := hide hbs
      have HOF := hide hoff
      have HBO := hide hBO
      have ht4 : t < 256 := by omega
      clear hf hb hc hbs hoff hBO ht
      go_wp2_with fail
      refine HBO.out.mono ?_
      rintro e w3 ⟨rfl, hb3⟩
      have HW3 := hide (writer_keep HW.out hb3)
      have HB3 := hide (HBr.out.trans (hb3.mono hsr))
      have hs3 := HB3.out.size
      clear hb3 c0 c1 c2 HBO
      go_wp2_with (refine wpList_store_row rfl 89 (.tmp 5) (.tmp 30) rfl w3.heap.size _ rfl rfl 89 _ (heap_new rfl _) size89 rfl (octs_one _) ?_)
      have HA4 := hide (setRow_heap (w3.alloc zeros) w3.heap.size _ (octs f).toArray 89 (0, 0) (heap_new rfl _))
      have HB4 := hide (below_setRow (B := w3.heap.size) ((Below.refl _ w3).alloc (Nat.le_refl _) zeros) (Nat.le_refl _) (octs f).toArray)
      have HS4 := hide (show w3.heap.size < ((w3.alloc zeros).setRow w3.heap.size (octs f).toArray).heap.size from heap_lt HA4.out)
      unfold zeros at HA4 HB4 HS4
      generalize (w3.alloc _).setRow w3.heap.size (octs f).toArray = w4 at *
      have HW4 := hide (writer_keep HW3.out HB4.out)
      have HB4' := hide (HB3.out.trans (HB4.out.mono hs3))
      have hs4 := HB4'.out.size
      clear HB4 HW3 HB3
      go_wp2_with fail
      refine (HTA w4).out.mono ?_
      rintro e w5 ⟨rfl, rfl⟩
      go_wp2_with fail
      refine (writer_byte_k w4 w.heap.size w.heap.size t _ HW4.out (by rw [List.length_append]; omega)).mono ?_
      rintro e w5 ⟨rfl, hw5, hb5, hk5⟩
      have HW5 := hide hw5
      have HB5 := hide (HB4'.out.trans hb5)
      have HA5 := hide (hk5 _ _ _ HA4.out)
      have hs5 := HB5.out.size
      clear hw5 hb5 hk5 HW4 HB4' HA4 HTA
      rcases hcs with ⟨rfl, h0⟩ | ⟨rfl, h0, h1⟩ | ⟨rfl, h0, h1, h2, h3⟩ | ⟨rfl, h0, h1, h2, h3⟩ | ⟨rfl, h0, h1, h2, h3⟩
      · have HW6 := hide (show WriterIs w5 w.heap.size w.heap.size (Uv.uv n ++ body n m (j + 1)) from by
          rw [HBS.out, hfm, ← List.append_assoc]; exact HW5.out)
        go_wp2_with fail
        exact ⟨⟨j + 1, by simp, hj1, HW6.out, HB5.out⟩, by simp only [intOf]; omega⟩
      · have HW6 := hide (show WriterIs w5 w.heap.size w.heap.size (Uv.uv n ++ body n m (j + 1)) from by
          rw [HBS.out, hfm, ← List.append_assoc]; exact HW5.out)
        go_wp2_with fail
        exact ⟨⟨j + 1, by simp, hj1, HW6.out, HB5.out⟩, by simp only [intOf]; omega⟩
      · have hml : (Ds.mem f b).length = c := HC.out
        have hfl : (form f b).length = 2 + c := by rw [hfm]; simp [hml]; omega
        have HWB := writer_byte_k w5 w.heap.size w.heap.size (c - 1) _ HW5.out (by simp only [List.length_append, List.length_cons, List.length_nil]; omega)
        rw [show ((c - 1 : Nat) : Int) = (c : Int) - 1 by omega] at HWB
        have HWBH := hide HWB
        clear HWB
        go_wp2_with fail
        refine HWBH.out.mono ?_
        rintro e w6 ⟨rfl, hw6, hb6, hk6⟩
        have HW6 := hide hw6
        have HB6 := hide (HB5.out.trans hb6)
        have HA6 := hide (hk6 _ _ _ HA5.out)
        have hs6 := HB6.out.size
        clear hw6 hb6 hk6 HW5 HB5 HA5 HWBH
        go_wp2_with (refine wpList_load_row rfl 89 (.tmp 5) rfl w3.heap.size rfl 89 _ (0, 0) _ HA6.out Tryd.underlying89 rfl size89 ?_)
        refine (places_any w6 f b hwl true 1 rfl).mono ?_
        rintro e w7 ⟨v7, rfl, ho7, hb7⟩
        have HW7 := hide (writer_keep HW6.out hb7)
        have HB7 := hide (HB6.out.trans (hb7.mono hs6))
        have hs7 := HB7.out.size
        have HSR := hide (src_own (by simpa [Own, u8s_len] using ho7) (fun x hx => by have := mem_lt hx; omega) : Src w7 v7 (Ds.mem (sel f true) b))
        rw [mem_congr (m := sel f true) (k := f) (fun i _ => by unfold sel; cases f i <;> rfl)] at HSR
        clear ho7 hb7 HW6 HB6 HA6
        go_wp2_with fail
        refine (writer_raw_k w7 w.heap.size w.heap.size _ (Ds.mem f b) v7 HW7.out hs7 HSR.out (by simp only [List.length_append, List.length_cons, List.length_nil, hml]; omega)).mono ?_
        rintro e w8 ⟨rfl, hw8, hb8, hk8⟩
        have HW8 := hide (show WriterIs w8 w.heap.size w.heap.size (Uv.uv n ++ body n m (j + 1)) from by
          rw [HBS.out, hfm]; simpa using hw8)
        have HB8 := hide (HB7.out.trans hb8)
        clear hw8 hb8 hk8 HW7 HB7 HSR
        go_wp2_with fail
        exact ⟨⟨j + 1, by simp, hj1, HW8.out, HB8.out⟩, by simp only [intOf]; omega⟩
      · have hml : (Ds.mem (inv f) b).length = b - c := by have := cnt_inv f b; rw [HC.out] at this; exact this
        have hfl : (form f b).length = 2 + (b - c) := by rw [hfm]; simp [hml]; omega
        have HWB := writer_byte_k w5 w.heap.size w.heap.size (b - c - 1) _ HW5.out (by simp only [List.length_append, List.length_cons, List.length_nil]; omega)
        rw [show ((b - c - 1 : Nat) : Int) = (b : Int) - (c : Int) - 1 by omega] at HWB
        have HWBH := hide HWB
        clear HWB
        go_wp2_with fail
        refine HWBH.out.mono ?_
        rintro e w6 ⟨rfl, hw6, hb6, hk6⟩
        have HW6 := hide hw6
        have HB6 := hide (HB5.out.trans hb6)
        have HA6 := hide (hk6 _ _ _ HA5.out)
        have hs6 := HB6.out.size
        clear hw6 hb6 hk6 HW5 HB5 HA5 HWBH
        go_wp2_with (refine wpList_load_row rfl 89 (.tmp 5) rfl w3.heap.size rfl 89 _ (0, 0) _ HA6.out Tryd.underlying89 rfl size89 ?_)
        refine (places_any w6 f b hwl false 0 rfl).mono ?_
        rintro e w7 ⟨v7, rfl, ho7, hb7⟩
        have HW7 := hide (writer_keep HW6.out hb7)
        have HB7 := hide (HB6.out.trans (hb7.mono hs6))
        have hs7 := HB7.out.size
        have HSR := hide (src_own (by simpa [Own, u8s_len] using ho7) (fun x hx => by have := mem_lt hx; omega) : Src w7 v7 (Ds.mem (sel f false) b))
        rw [mem_congr (m := sel f false) (k := inv f) (fun i _ => by unfold sel inv; cases f i <;> rfl)] at HSR
        clear ho7 hb7 HW6 HB6 HA6
        go_wp2_with fail
        refine (writer_raw_k w7 w.heap.size w.heap.size _ (Ds.mem (inv f) b) v7 HW7.out hs7 HSR.out (by simp only [List.length_append, List.length_cons, List.length_nil, hml]; omega)).mono ?_
        rintro e w8 ⟨rfl, hw8, hb8, hk8⟩
        have HW8 := hide (show WriterIs w8 w.heap.size w.heap.size (Uv.uv n ++ body n m (j + 1)) from by
          rw [HBS.out, hfm]; simpa using hw8)
        have HB8 := hide (HB7.out.trans hb8)
        clear hw8 hb8 hk8 HW7 HB7 HSR
        go_wp2_with fail
        exact ⟨⟨j + 1, by simp, hj1, HW8.out, HB8.out⟩, by simp only [intOf]; omega⟩
      · have hfl : (form f b).length = 1 + (b + 7) / 8 := by rw [hfm]; simp [bitsB_len]; omega
        have HSR := hide (src_bits HA5.out hwl HOF.out)
        have h78 : ((b : Int) + 7) / 8 = (((b + 7) / 8 : Nat) : Int) := by omega
        have hq32 : (b + 7) / 8 ≤ 32 := by omega
        obtain ⟨i0, hi, hz0, hz1, hz2⟩ := info_parts info5
        go_wp2_with (refine wpList_slice_arr rfl 89 (.tmp 5) (.tmp 71) rfl w3.heap.size rfl ((b + 7) / 8) 32 rfl 5 Tryd.underlying89 i0 hi hq32 (by decide) ?_; simp only [Act.put, List.setIfInBounds_toArray, List.set_cons_succ, List.set_cons_zero])
        have HRW := writer_raw_k w5 w.heap.size w.heap.size _ (bitsB f b) _ HW5.out hs5 HSR.out (by simp only [List.length_append, List.length_cons, List.length_nil, bitsB_len]; omega)
        refine HRW.mono ?_
        rintro e w8 ⟨rfl, hw8, hb8, hk8⟩
        have HW8 := hide (show WriterIs w8 w.heap.size w.heap.size (Uv.uv n ++ body n m (j + 1)) from by
          rw [HBS.out, hfm]; simpa using hw8)
        have HB8 := hide (HB5.out.trans hb8)
        clear hw8 hb8 hk8 HRW HSR
        go_wp2_with fail
        exact ⟨⟨j + 1, by simp, hj1, HW8.out, HB8.out⟩, by simp only [intOf]; omega⟩
    · have hi1 : ¬ 256 * (j : Int) < (n : Int) := by omega
      have hjj : j = nb n := by unfold nb at hj ⊢; omega
      subst hjj
      go_wp2_with fail
      refine (writer_bytes wr w.heap.size w.heap.size _ HW.out (fun x hx => ?_) (by rw [List.length_append]; omega)).mono ?_
      · rcases List.mem_append.1 hx with hx | hx
        · exact Uv.uv_lt n (by omega) x hx
        · exact body_lt n m (nb n) x hx
      rintro e w4 ⟨rfl, hh, hb4⟩
      have HB4 := hide (hb4.mono hsr)
      have HH := hide hh
      clear hb4 hh c0 c1 c2
      go_wp2_with fail
      go_ret
      exact ⟨wr.heap.size + 1, by omega, by rw [List.length_append]; rfl, HH.out, HBr.out.trans HB4.out⟩
end Go.Proofs.YtmkbbekeimnajaaDoor

/-! Fx: the law's own words at the start of each law: a set of four numbers -/
namespace Go.Proofs.YtmkbbekeimnajaaDoor
open Go.RowKit Ds
theorem fx_cnt : cnt (mOf [7, 2, 2, 3]) 10 = 3 := by decide
theorem fx_mem : mI (mOf [7, 2, 2, 3]) 10 = [2, 3, 7] := by decide
theorem fx_enc : Uv.uv 10 ++ body 10 (mOf [7, 2, 2, 3]) (nb 10) = [10, 4, 140, 0] := by decide
theorem ints_own {w : World} {B : Nat} {v : Value} {zs : List Int} (h : w.ownsRow B 3 1 v zs.length (intCells zs)) : Ints w v zs := by
  rcases Joins.ownsRow_forms h with ⟨rfl, h0⟩ | ⟨g, cap, rfl⟩
  · exact .inl ⟨rfl, List.eq_nil_of_length_eq_zero h0⟩
  · refine .inr ⟨_, cap, rfl, ?_, ?_, fun k x hk => ?_⟩
    · rcases h.2 with ⟨h0, _⟩ | ⟨g', cap', cur, hv, _, _, hl, _⟩
      · cases h0
      · simp only [Value.slice.injEq] at hv; omega
    · rcases h.2 with ⟨h0, _⟩ | ⟨g', cap', cur, hv, _, _, _, hm, _⟩
      · cases h0
      · simp only [Value.slice.injEq] at hv; unfold maxLen at hm; omega
    · exact h.cells rfl k _ (by simp [intCells, hk])
set_option maxRecDepth 100000 in
set_option maxHeartbeats 2000000 in
theorem fixed_any (w : World) (E : Nat → Addr) (h : Errs w E allErrs) (hT : DeBr w) (hg : 25 ≤ w.heap.size) :
    Calls Tryd.prog 11 #[] w fun e w' => e = .returned (.bool true) ∧ Below w.heap.size w w' := by
  have HE := hide h
  have HT := hide hT
  clear h hT
  go_enter Tryd.func11, Tryd.ntmps11
  go_wp2_with fail
  have hz : Ints (w.alloc (.cells #[.int .i64 7, .int .i64 2, .int .i64 2, .int .i64 3] 3)) (.slice (some ⟨w.heap.size, 0, none⟩) 4 4) [7, 2, 2, 3] :=
    .inr ⟨_, 4, rfl, by decide, by decide, fun k x hk => by
      rw [Addr.add_mid, Nat.zero_add, cell_at (heap_new rfl _)]
      match k, hk with
      | 0, hk | 1, hk | 2, hk | 3, hk => simp at hk; subst hk; rfl⟩
  have HB1 := hide ((Below.refl w.heap.size w).alloc (Nat.le_refl _) (.cells #[.int .i64 7, .int .i64 2, .int .i64 2, .int .i64 3] 3))
  have HER := hide (show ErrAt w 0 (E 0) from HE.out.cell 0 (by decide))
  refine (of_any _ 10 _ 4 [7, 2, 2, 3] hz (by decide) (E 0) (err_below HER.out HB1.out (by omega)) (by simp)).mono ?_
  rintro e w2 ⟨hof, hb2⟩
  have HB2 := hide (HB1.out.trans (hb2.mono (by simp)))
  have hs2 := HB2.out.size
  clear hb2 hz HB1
  rcases hof with ⟨N, S, g, cap, hN, _, _, rfl, _, _, hs⟩ | ⟨hno, _⟩
  · have hN10 : N = 10 := by omega
    subst hN10
    have HS := hide hs
    have HER2 := hide (err_below HER.out HB2.out (by omega))
    clear hs hN
    go_wp2_with fail
    refine (count_any w2 HS.out).mono ?_
    rintro e w3 ⟨rfl, rfl⟩
    rw [fx_cnt]
    go_wp2_with fail
    refine (new_bad w2 1048577 (by omega) (E 0) HER2.out).mono ?_
    rintro e w3 ⟨rfl, q3, rfl⟩
    have HS4 := hide (HS.out.keep (below_drewN (Below.refl _ w2) q3))
    have HB4 := hide (below_drewN HB2.out q3)
    generalize w2.drewN q3 = w4 at *
    have hs4 := HB4.out.size
    have HE4 := hide (HE.out.below HB4.out (Nat.le_refl _) (ids_lt hg))
    have HT4 := hide (debr_below HT.out HB4.out (by omega))
    clear HS HB2 HER2 HT HE
    go_wp2_with fail
    refine (num_range w4 E HE4.out).mono ?_
    rintro e w5 ⟨rfl, rfl⟩
    go_wp2_with fail
    refine (encode_any w4 HS4.out).mono ?_
    rintro e w5 ⟨q, _, rfl, hh, hb5⟩
    rw [fx_enc] at hh
    rw [fx_enc]
    have hb5' := hb5.mono hs4
    have HS5 := hide (HS4.out.keep hb5)
    have HT5 := hide (debr_below HT4.out hb5 (by omega))
    have HB5 := hide (HB4.out.trans hb5')
    have hs5 := HB5.out.size
    have hX : Src (w5.alloc (.cells (u8s [10, 4, 140, 0]).toArray 5)) (.slice (some ⟨w5.heap.size, 0, none⟩) 4 4) [10, 4, 140, 0] := src_block (heap_new rfl _) (by decide) (by decide)
    have hY : Src (w5.alloc (.cells (u8s [10, 4, 140, 0]).toArray 5)) (.slice (some ⟨q, 0, none⟩) 4 4) [10, 4, 140, 0] := src_block (heap_old hh _) (by decide) (by decide)
    have HBE := hide (bytes_equal _ _ _ _ _ hY hX)
    clear hh hb5 hb5' hX hY HS4 HT4
    go_wp2_with fail
    refine HBE.out.mono ?_
    rintro e w6 ⟨rfl, rfl⟩
    rw [show decide True = true from rfl]
    have HB6 := hide (HB5.out.alloc hs5 (.cells (u8s [10, 4, 140, 0]).toArray 5))
    have HS6 := hide (HS5.out.keep ((Below.refl w5.heap.size w5).alloc (Nat.le_refl _) (.cells (u8s [10, 4, 140, 0]).toArray 5)))
    have HT6 := hide (debr_below HT5.out ((Below.refl w5.heap.size w5).alloc (Nat.le_refl _) (.cells (u8s [10, 4, 140, 0]).toArray 5)) (by omega))
    have hq6 : 15 < (w5.alloc (.cells (u8s [10, 4, 140, 0]).toArray 5)).heap.size := by rw [World.size_alloc]; omega
    have HM := hide (members_any _ HS6.out HT6.out hq6)
    rw [fx_cnt, fx_mem] at HM
    go_wp2_with fail
    refine HM.out.mono ?_
    rintro e w7 ⟨v7, rfl, ho7, hb7⟩
    have HI7 := hide (ints_own ho7)
    have HB7 := hide (HB6.out.trans (hb7.mono HB6.out.size))
    have hs7 := HB7.out.size
    obtain ⟨ao7, c7, rfl⟩ := row_shape ho7
    have hI8 : Ints (w7.alloc (.cells (intCells [2, 3, 7]).toArray 3)) (.slice (some ⟨w7.heap.size, 0, none⟩) 3 3) [2, 3, 7] :=
      .inr ⟨_, 3, rfl, by decide, by decide, fun k x hk => by
        rw [Addr.add_mid, Nat.zero_add, cell_at (heap_new rfl _)]
        match k, hk with
        | 0, hk | 1, hk | 2, hk => simp at hk; subst hk; rfl⟩
    have HI9 := hide (ints_keep HI7.out ((Below.refl w7.heap.size w7).alloc (Nat.le_refl _) (.cells (intCells [2, 3, 7]).toArray 3)))
    have HQ := hide (ints_equal _ ao7 (some ⟨w7.heap.size, 0, none⟩) c7 3 [2, 3, 7] [2, 3, 7] HI9.out hI8 (by decide))
    clear ho7 hb7 hI8 HI7 HI9 HBE HM
    go_wp2_with fail
    refine HQ.out.mono ?_
    rintro e w8 ⟨rfl, q8, rfl⟩
    have HB8 := hide (below_drewN (HB7.out.alloc hs7 (.cells (intCells [2, 3, 7]).toArray 3)) q8)
    go_wp2_with fail
    go_ret
    exact ⟨rfl, HB8.out⟩
  · exact absurd ⟨by decide, by decide, by decide⟩ hno
end Go.Proofs.YtmkbbekeimnajaaDoor

/-! Eq: Equal, alike -/
namespace Go.Proofs.YtmkbbekeimnajaaDoor
open Go.RowKit Ds
theorem word_eq_of {m1 m2 : Nat → Bool} {n : Nat} (o1 : ∀ i, n ≤ i → m1 i = false) (o2 : ∀ i, n ≤ i → m2 i = false) (h : ∀ j, j < nw n → word m1 j = word m2 j) : m1 = m2 := by
  funext i
  by_cases hi : i < n
  · rw [← word_has m1 i, ← word_has m2 i, h (i / 64) (by unfold nw; omega)]
  · rw [o1 i (by omega), o2 i (by omega)]
theorem first_diff (P : Nat → Prop) (k : Nat) (h : ¬ ∀ j, j < k → P j) : ∃ d, d < k ∧ ¬ P d ∧ ∀ i, i < d → P i := by
  induction k with
  | zero => exact absurd (fun j hj => absurd hj (by omega)) h
  | succ k ih =>
    by_cases h1 : ∀ j, j < k → P j
    · refine ⟨k, by omega, fun hk => h fun j hj => ?_, h1⟩
      by_cases e : j = k
      · rw [e]; exact hk
      · exact h1 j (by omega)
    · obtain ⟨d, a, b, c⟩ := ih h1
      exact ⟨d, by omega, b, c⟩
set_option maxRecDepth 100000 in
set_option maxHeartbeats 2000000 in
theorem equal_same (w : World) {S1 g1 cap1 S2 g2 cap2 n : Nat} {m : Nat → Bool} (h1 : SetAt w S1 g1 cap1 n m) (h2 : SetAt w S2 g2 cap2 n m) :
    Calls Tryd.prog 35 #[.pointer (some ⟨S1, 0, none⟩), .pointer (some ⟨S2, 0, none⟩)] w fun e w' => e = .returned (.bool true) ∧ ∃ q, w' = w.drewN q := by
  obtain ⟨a0, a1, a2⟩ := cells3 h1.hd
  obtain ⟨b0, b1, b2⟩ := cells3 h2.hd
  have hsm := h1.small
  have HS1 := hide h1
  have HS2 := hide h2
  clear h1 h2
  go_enter Tryd.func35, Tryd.ntmps35
  go_wp2_with fail
  go_quiet (fail)
  have HT1 := hide (HS1.out.keep (below_drewN (Below.refl _ _) nq))
  have HT2 := hide (HS2.out.keep (below_drewN (Below.refl _ _) nq))
  have HW := hide (show ∃ q, w.drewN nq = w.drewN q from ⟨_, rfl⟩)
  generalize w.drewN nq = W at HT1 HT2 HW
  clear a0 a1 a2 b0 b1 b2
  obtain ⟨a0, a1, a2⟩ := cells3 HT1.out.hd
  obtain ⟨b0, b1, b2⟩ := cells3 HT2.out.hd
  have hcap1 := HT1.out.cap
  have hcap2 := HT2.out.cap
  obtain ⟨k, hk⟩ : ∃ k, nw n = k := ⟨_, rfl⟩
  have hkl : k ≤ 16384 := by rw [← hk]; unfold nw; omega
  rw [hk] at a2 b2 hcap1 hcap2
  have HK := hide hk
  clear hk
  go_wp2_with fail
  go_loop [36] (fun i => ∃ j : Nat, i = .int .i64 (j : Nat) ∧ j ≤ k) (fun i => k - (intOf i).toNat)
  case atStart => exact ⟨0, rfl, Nat.zero_le _⟩
  case round =>
    obtain ⟨j, rfl, hj⟩ := hrel
    by_cases hlt : j < k
    · have hji : (j : Int) < (k : Int) := by omega
      have aw := HT1.out.cell (show j < nw n by rw [HK.out]; exact hlt)
      have bw := HT2.out.cell (show j < nw n by rw [HK.out]; exact hlt)
      go_wp2_with fail
      exact ⟨⟨j + 1, vi (by omega), by omega⟩, by simp only [intOf]; omega⟩
    · obtain rfl : k = j := by omega
      go_wp2_with fail
      go_ret
      exact ⟨rfl, HW.out⟩
set_option maxRecDepth 100000 in
set_option maxHeartbeats 2000000 in
theorem equal_no (w : World) {S1 g1 cap1 S2 g2 cap2 n1 n2 : Nat} {m1 m2 : Nat → Bool} (h1 : SetAt w S1 g1 cap1 n1 m1) (h2 : SetAt w S2 g2 cap2 n2 m2) (hne : n1 = n2 → m1 ≠ m2) :
    Calls Tryd.prog 35 #[.pointer (some ⟨S1, 0, none⟩), .pointer (some ⟨S2, 0, none⟩)] w fun e w' => e = .returned (.bool false) ∧ ∃ q, w' = w.drewN q := by
  obtain ⟨a0, a1, a2⟩ := cells3 h1.hd
  obtain ⟨b0, b1, b2⟩ := cells3 h2.hd
  have hsm := h1.small
  have HS1 := hide h1
  have HS2 := hide h2
  clear h1 h2
  by_cases hn : n1 = n2
  · subst hn
    have HNE := hide (hne rfl)
    clear hne
    by_cases hc : cnt m1 n1 = cnt m2 n1
    · rw [← hc] at b1
      have hd := first_diff (fun j => word m1 j = word m2 j) (nw n1) (fun h => HNE.out (word_eq_of HS1.out.off HS2.out.off h))
      obtain ⟨d, hdk, hdne, hdlt⟩ := hd
      have HDL := hide hdlt
      have HDN := hide hdne
      clear hc hdlt hdne
      go_enter Tryd.func35, Tryd.ntmps35
      go_wp2_with fail
      go_quiet (fail)
      have HT1 := hide (HS1.out.keep (below_drewN (Below.refl _ _) nq))
      have HT2 := hide (HS2.out.keep (below_drewN (Below.refl _ _) nq))
      have HW := hide (show ∃ q, w.drewN nq = w.drewN q from ⟨_, rfl⟩)
      generalize w.drewN nq = W at HT1 HT2 HW
      clear a0 a1 a2 b0 b1 b2
      obtain ⟨a0, a1, a2⟩ := cells3 HT1.out.hd
      obtain ⟨b0, b1, b2⟩ := cells3 HT2.out.hd
      have hcap1 := HT1.out.cap
      have hcap2 := HT2.out.cap
      obtain ⟨k, hk⟩ : ∃ k, nw n1 = k := ⟨_, rfl⟩
      have hkl : k ≤ 16384 := by rw [← hk]; unfold nw; omega
      rw [hk] at a2 b2 hcap1 hcap2 hdk
      have HK := hide hk
      clear hk
      go_wp2_with fail
      go_loop [36] (fun i => ∃ j : Nat, i = .int .i64 (j : Nat) ∧ j ≤ d) (fun i => k - (intOf i).toNat)
      case atStart => exact ⟨0, rfl, Nat.zero_le _⟩
      case round =>
        obtain ⟨j, rfl, hj⟩ := hrel
        have hlt : j < k := by omega
        have hji : (j : Int) < (k : Int) := by omega
        have aw := HT1.out.cell (show j < nw n1 by rw [HK.out]; exact hlt)
        have bw := HT2.out.cell (show j < nw n1 by rw [HK.out]; exact hlt)
        by_cases hjd : j < d
        · rw [← HDL.out j hjd] at bw
          go_wp2_with fail
          exact ⟨⟨j + 1, vi (by omega), by omega⟩, by simp only [intOf]; omega⟩
        · obtain rfl : d = j := by omega
          have hx := HDN.out
          have hxi : ((word m1 d : Int) == (word m2 d : Int)) = false := by simp; omega
          have hxn : ¬ word m1 d = word m2 d := hx
          clear hx
          go_wp2_with fail
          go_ret
          exact ⟨rfl, HW.out⟩
    · have hci : ((cnt m2 n1 : Int) == (cnt m1 n1 : Int)) = false := by simp; omega
      have hcn : ¬ cnt m2 n1 = cnt m1 n1 := by omega
      clear hc
      go_enter Tryd.func35, Tryd.ntmps35
      go_wp2_with fail
      go_quiet (fail)
      go_wp2_with fail
      go_ret
      exact ⟨rfl, _, rfl⟩
  · have hci : ((n2 : Int) == (n1 : Int)) = false := by simp; omega
    have hci2 : ((n2 : Int) != (n1 : Int)) = true := by simp; omega
    have hcn : (n2 == n1) = false := by simp; omega
    have hcn2 : (n2 != n1) = true := by simp; omega
    clear hn hne
    go_enter Tryd.func35, Tryd.ntmps35
    go_wp2_with fail
    go_quiet (fail)
    go_wp2_with fail
    go_ret
    exact ⟨rfl, _, rfl⟩
/-- the bytes of a set -/
def encS (n : Nat) (m : Nat → Bool) : List Nat := Uv.uv n ++ body n m (nb n)
theorem encS_lt {n : Nat} {m : Nat → Bool} (hn : n ≤ 1048576) : ∀ x ∈ encS n m, x < 256 := fun x hx => by
  rcases List.mem_append.1 hx with hx | hx
  · exact Uv.uv_lt n (by omega) x hx
  · exact body_lt n m (nb n) x hx
theorem encS_len {n : Nat} {m : Nat → Bool} (hn : n ≤ 1048576) : (encS n m).length ≤ 140000 := by
  have h1 := Uv.uv_len n
  have h2 := body_len n m (nb n)
  have h3 : nb n ≤ 4096 := by unfold nb; omega
  unfold encS
  rw [List.length_append]
  omega
theorem encode_set (w : World) {S g cap n : Nat} {m : Nat → Bool} (h : SetAt w S g cap n m) :
    Calls Tryd.prog 24 #[.pointer (some ⟨S, 0, none⟩)] w fun e w' => ∃ q, w.heap.size ≤ q ∧ e = .returned (.slice (some ⟨q, 0, none⟩) (encS n m).length (encS n m).length) ∧
      w'.heap[q]? = some (.cells (u8s (encS n m)).toArray 5 (0, 0)) ∧ Below w.heap.size w w' := encode_any w h
theorem src_encS {w : World} {q n : Nat} {m : Nat → Bool} (hn : n ≤ 1048576) (h : w.heap[q]? = some (.cells (u8s (encS n m)).toArray 5 (0, 0))) : Src w (.slice (some ⟨q, 0, none⟩) (encS n m).length (encS n m).length) (encS n m) :=
  src_block h (encS_lt hn) (by have := encS_len (m := m) hn; omega)
set_option maxRecDepth 100000 in
set_option maxHeartbeats 2000000 in
theorem alike_same (w : World) {S1 g1 cap1 S2 g2 cap2 n : Nat} {m : Nat → Bool} (h1 : SetAt w S1 g1 cap1 n m) (h2 : SetAt w S2 g2 cap2 n m) :
    Calls Tryd.prog 27 #[.pointer (some ⟨S1, 0, none⟩), .pointer (some ⟨S2, 0, none⟩)] w fun e w' => e = .returned (.bool true) ∧ Below w.heap.size w w' := by
  have hsm := h1.small
  have HS1 := hide h1
  have HS2 := hide h2
  clear h1 h2
  go_enter Tryd.func27, Tryd.ntmps27
  go_wp2_with fail
  refine (equal_same w HS1.out HS2.out).mono ?_
  rintro e wz ⟨rfl, q1, rfl⟩
  have HA1 := hide (HS1.out.keep (below_drewN (Below.refl _ _) q1))
  have HA2 := hide (HS2.out.keep (below_drewN (Below.refl _ _) q1))
  have HB1 := hide (below_drewN (Below.refl w.heap.size w) q1)
  clear HS1 HS2
  go_wp2_with fail
  refine (equal_same _ HA2.out HA1.out).mono ?_
  rintro e wz ⟨rfl, q2, rfl⟩
  have HC1 := hide (HA1.out.keep (below_drewN (Below.refl _ _) q2))
  have HC2 := hide (HA2.out.keep (below_drewN (Below.refl _ _) q2))
  have HB2 := hide (below_drewN HB1.out q2)
  clear HA1 HA2 HB1
  generalize (w.drewN q1).drewN q2 = w2 at *
  go_wp2_with fail
  refine (encode_set w2 HC1.out).mono ?_
  rintro e w3 ⟨p3, hp3, rfl, hh3, hb3⟩
  have HH3 := hide hh3
  have HB3 := hide (HB2.out.trans (hb3.mono HB2.out.size))
  have HD2 := hide (HC2.out.keep hb3)
  clear hh3 hb3 HC1 HC2
  go_wp2_with fail
  refine (encode_set w3 HD2.out).mono ?_
  rintro e w4 ⟨p4, hp4, rfl, hh4, hb4⟩
  have HSA := hide (src_keep (src_encS hsm HH3.out) hb4)
  have HSB := hide (src_encS hsm hh4)
  have HB4 := hide (HB3.out.trans (hb4.mono HB3.out.size))
  clear hh4 hb4 HD2 HH3
  have HQ := hide (bytes_equal w4 _ _ _ _ HSA.out HSB.out)
  go_wp2_with fail
  refine HQ.out.mono ?_
  rintro e w5 ⟨rfl, rfl⟩
  go_wp2_with fail
  go_ret
  exact ⟨by simp, HB4.out⟩
end Go.Proofs.YtmkbbekeimnajaaDoor

/-! Rs: plain: runs of members -/
namespace Ds
def rnStep (l : List (Nat × Nat)) (i : Nat) : List (Nat × Nat) :=
  match l.getLast? with
  | some p => if p.2 + 1 = i then l.dropLast ++ [(p.1, i)] else l ++ [(i, i)]
  | none => [(i, i)]
def runs (xs : List Nat) : List (Nat × Nat) := xs.foldl rnStep []
theorem runs_nil : runs [] = [] := rfl
theorem runs_snoc (xs : List Nat) (i : Nat) : runs (xs ++ [i]) = rnStep (runs xs) i := by simp [runs]
/-- the numbers of a run, of runs -/
def nums (p : Nat × Nat) : List Nat := List.range' p.1 (p.2 + 1 - p.1)
def flat (l : List (Nat × Nat)) : List Nat := l.flatMap nums
theorem nums_one (i : Nat) : nums (i, i) = [i] := by simp [nums]
theorem nums_more {a b : Nat} (h : a ≤ b) : nums (a, b + 1) = nums (a, b) ++ [b + 1] := by
  unfold nums
  have e : b + 1 + 1 - a = (b + 1 - a) + 1 := by omega
  dsimp only
  rw [e, List.range'_concat, Nat.mul_comm, Nat.mul_one]
  congr 2
  omega
/-- runs one behind the other, apart, from lo on -/
def Rising : Nat → List (Nat × Nat) → Prop
  | _, [] => True
  | lo, p :: r => lo ≤ p.1 ∧ p.1 ≤ p.2 ∧ Rising (p.2 + 2) r
def top : Nat → List (Nat × Nat) → Nat
  | lo, [] => lo
  | _, p :: r => top (p.2 + 2) r
theorem rising_app : ∀ (l : List (Nat × Nat)) (lo : Nat) (p : Nat × Nat), Rising lo (l ++ [p]) ↔ Rising lo l ∧ top lo l ≤ p.1 ∧ p.1 ≤ p.2
  | [], lo, p => by simp [Rising, top]
  | q :: r, lo, p => by
    simp only [List.cons_append, Rising, top]
    rw [rising_app r]
    constructor
    · rintro ⟨a, b, c, d⟩; exact ⟨⟨a, b, c⟩, d⟩
    · rintro ⟨⟨a, b, c⟩, d⟩; exact ⟨a, b, c, d⟩
theorem top_app : ∀ (l : List (Nat × Nat)) (lo : Nat) (p : Nat × Nat), top lo (l ++ [p]) = p.2 + 2
  | [], _, _ => rfl
  | q :: r, _, p => by rw [List.cons_append, top, top_app r]
theorem snoc_of_last {l : List (Nat × Nat)} {p : Nat × Nat} (h : l.getLast? = some p) : l = l.dropLast ++ [p] := by
  rcases List.eq_nil_or_concat l with rfl | ⟨q, x, rfl⟩
  · simp at h
  · simp at h; subst h; simp
/-- what a step keeps: the numbers, and that the runs stand apart -/
theorem step_ok {l : List (Nat × Nat)} {i : Nat} (h : Rising 0 l) (hi : top 0 l ≤ i + 1) : flat (rnStep l i) = flat l ++ [i] ∧ Rising 0 (rnStep l i) ∧ top 0 (rnStep l i) = i + 2 := by
  unfold rnStep
  cases hl : l.getLast? with
  | none =>
    have : l = [] := List.getLast?_eq_none_iff.1 hl
    subst this
    simp [flat, nums_one, Rising, top]
  | some p =>
    have hs := snoc_of_last hl
    dsimp only
    have ht : top 0 l = p.2 + 2 := by rw [hs, top_app]
    have hr : Rising 0 (l.dropLast ++ [p]) := by rw [← hs]; exact h
    rw [rising_app] at hr
    obtain ⟨h1, h2, h3⟩ := hr
    by_cases e : p.2 + 1 = i
    · rw [if_pos e]
      refine ⟨?_, (rising_app _ _ _).2 ⟨h1, h2, by dsimp only; omega⟩, top_app _ _ _⟩
      conv => rhs; rw [hs]
      unfold flat
      rw [List.flatMap_append, List.flatMap_append, List.append_assoc]
      congr 1
      have := nums_more (a := p.1) (b := p.2) h3
      simp only [List.flatMap_cons, List.flatMap_nil, List.append_nil]
      rw [← e, this]
    · rw [if_neg e]
      refine ⟨?_, (rising_app _ _ _).2 ⟨h, by dsimp only; omega, Nat.le_refl _⟩, top_app _ _ _⟩
      unfold flat
      rw [List.flatMap_append]
      simp [nums_one]
theorem runs_ok {w : Nat} : ∀ (n : Nat) (xs : List Nat), xs.length = n → rising w xs → flat (runs xs) = xs ∧ Rising 0 (runs xs) ∧ top 0 (runs xs) ≤ w + 1 := by
  intro n
  induction n generalizing w with
  | zero => intro xs h _; rw [List.eq_nil_of_length_eq_zero h]; simp [runs, flat, Rising, top]
  | succ n ih =>
    intro xs h hr
    obtain ⟨qs, x, rfl⟩ : ∃ qs x, xs = qs ++ [x] := by
      rcases List.eq_nil_or_concat xs with rfl | ⟨qs, x, rfl⟩
      · simp at h
      · exact ⟨qs, x, by simp⟩
    obtain ⟨h1, h2⟩ := rising_snoc hr
    obtain ⟨a, b, c⟩ := ih qs (by simpa using h) h1
    obtain ⟨d, e, f⟩ := step_ok (i := x) b c
    rw [runs_snoc]
    exact ⟨by rw [d, a], e, by omega⟩
theorem runs_mem (m : Nat → Bool) (n : Nat) : flat (runs (mem m n)) = mem m n ∧ Rising 0 (runs (mem m n)) ∧ top 0 (runs (mem m n)) ≤ n + 1 :=
  runs_ok _ _ rfl (rising_mem m n)
theorem runs_len : ∀ (n : Nat) (xs : List Nat), xs.length = n → (runs xs).length ≤ n := by
  intro n
  induction n with
  | zero => intro xs h; rw [List.eq_nil_of_length_eq_zero h]; simp [runs]
  | succ n ih =>
    intro xs h
    obtain ⟨qs, x, rfl⟩ : ∃ qs x, xs = qs ++ [x] := by
      rcases List.eq_nil_or_concat xs with rfl | ⟨qs, x, rfl⟩
      · simp at h
      · exact ⟨qs, x, by simp⟩
    have := ih qs (by simpa using h)
    rw [runs_snoc]
    unfold rnStep
    cases hl : (runs qs).getLast? with
    | none => simp
    | some p =>
      dsimp only
      split
      · simp; omega
      · simp; omega
/-- one run of rising ones, seen from the k runs ahead -/
theorem rising_at : ∀ (l : List (Nat × Nat)) (lo k : Nat) (p : Nat × Nat), Rising lo l → l[k]? = some p → top lo (l.take k) ≤ p.1 ∧ p.1 ≤ p.2 ∧ p.2 + 2 ≤ top lo l
  | [], _, _, _, _, h => by simp at h
  | q :: r, lo, 0, p, hr, h => by
    simp at h
    subst h
    obtain ⟨h1, h2, h3⟩ := hr
    refine ⟨h1, h2, ?_⟩
    rw [top]
    clear h1 h2
    generalize q.2 + 2 = t at h3 ⊢
    clear q lo
    induction r generalizing t with
    | nil => exact Nat.le_refl _
    | cons s r ih => obtain ⟨a, b, c⟩ := h3; have := ih _ c; rw [top]; omega
  | q :: r, lo, k + 1, p, hr, h => by
    have := rising_at r (q.2 + 2) k p hr.2.2 (by simpa using h)
    simpa [top] using this
theorem flat_take {l : List (Nat × Nat)} {k : Nat} {p : Nat × Nat} (h : l[k]? = some p) : flat (l.take (k + 1)) = flat (l.take k) ++ nums p := by
  rw [List.take_add_one, h]
  simp [flat]
theorem top_take {l : List (Nat × Nat)} {lo k : Nat} {p : Nat × Nat} (h : l[k]? = some p) : top lo (l.take (k + 1)) = p.2 + 2 := by
  rw [List.take_add_one, h]
  exact top_app _ _ _
end Ds

/-! Ru: runs in memory -/
namespace Go.Proofs.YtmkbbekeimnajaaDoor
open Go.RowKit Ds
theorem info43 : (Tryd.prog.info? 43).map (fun i => (i.zero, i.size, i.bytes)) = some (some (.agg #[.int .i64 0, .int .i64 0]), 2, 16) := by kernel_rfl
def runCells (l : List (Nat × Nat)) : List Value := l.flatMap fun p => [.int .i64 (p.1 : Nat), .int .i64 (p.2 : Nat)]
theorem runCells_len (l : List (Nat × Nat)) : (runCells l).length = l.length * 2 := by
  induction l with
  | nil => rfl
  | cons p r ih => simp only [runCells, List.flatMap_cons, List.length_append, List.length_cons, List.length_nil] at ih ⊢; omega
theorem runCells_app (l k : List (Nat × Nat)) : runCells (l ++ k) = runCells l ++ runCells k := by simp [runCells]
theorem runCells_one (l : List (Nat × Nat)) : ∀ u ∈ runCells l, u.oneCell' = true := by
  intro u hu
  simp only [runCells, List.mem_flatMap] at hu
  obtain ⟨p, _, hp⟩ := hu
  simp only [List.mem_cons, List.not_mem_nil, or_false] at hp
  rcases hp with rfl | rfl <;> rfl
theorem runCells_last (q : List (Nat × Nat)) (p : Nat × Nat) : (runCells (q ++ [p]))[q.length * 2]? = some (.int .i64 (p.1 : Nat)) ∧ (runCells (q ++ [p]))[q.length * 2 + 1]? = some (.int .i64 (p.2 : Nat)) := by
  rw [runCells_app]
  have h := runCells_len q
  constructor
  · rw [List.getElem?_append_right (by omega), h, Nat.sub_self]; rfl
  · rw [List.getElem?_append_right (by omega), h, show q.length * 2 + 1 - q.length * 2 = 1 by omega]; rfl
theorem runCells_set (q : List (Nat × Nat)) (p : Nat × Nat) (x : Nat) : (runCells (q ++ [p])).set (q.length * 2 + 1) (.int .i64 (x : Nat)) = runCells (q ++ [(p.1, x)]) := by
  rw [runCells_app, runCells_app]
  have h := runCells_len q
  rw [List.set_append_right _ _ (by omega), h, show q.length * 2 + 1 - q.length * 2 = 1 by omega]
  rfl
/-- a cell of a row is written -/
theorem row_put {w : World} {B e s g n cap : Nat} {xs : List Value} (h : w.ownsRow B e s (.slice (some ⟨g, 0, none⟩) n cap) n xs) (j : Nat) (x : Value) :
    (w.setCell ⟨g, j, none⟩ x).ownsRow B e s (.slice (some ⟨g, 0, none⟩) n cap) n (xs.set j x) := by
  obtain ⟨hl, ⟨hv, _⟩ | ⟨g', cap', cur, hv, h1, h2, h3, h4, h5, h6⟩⟩ := h
  · cases hv
  · simp only [Value.slice.injEq, Option.some.injEq, Addr.mk.injEq, true_and, and_true] at hv
    obtain ⟨rfl, rfl⟩ := hv
    refine ⟨by rw [List.length_set]; exact hl, .inr ⟨g, cap, cur.setIfInBounds j x, rfl, h1, heap_set h2 x, h3, h4, by rw [Array.size_setIfInBounds]; exact h5, ?_⟩⟩
    rw [Array.toList_setIfInBounds, List.take_set, h6]
theorem row_cell {w : World} {B e s g n cap : Nat} {xs : List Value} (h : w.ownsRow B e s (.slice (some ⟨g, 0, none⟩) n cap) n xs) {j : Nat} {x : Value} (hx : xs[j]? = some x) :
    w.cell? ⟨g, j, none⟩ = some x ∧ w.frozen? ⟨g, j, none⟩ = false := by
  obtain ⟨hl, ⟨hv, _⟩ | ⟨g', cap', cur, hv, h1, h2, h3, h4, h5, h6⟩⟩ := h
  · cases hv
  · simp only [Value.slice.injEq, Option.some.injEq, Addr.mk.injEq, true_and, and_true] at hv
    obtain ⟨rfl, rfl⟩ := hv
    refine ⟨?_, free_at h2 _⟩
    have hj := (List.getElem?_eq_some_iff.1 hx).1
    rw [cell_at h2]
    rw [← h6, List.getElem?_take, if_pos (by omega)] at hx
    simpa using hx
theorem row_at {w : World} {B e s n : Nat} {v : Value} {xs : List Value} (h : w.ownsRow B e s v n xs) (hn : 0 < n) : ∃ g cap, v = .slice (some ⟨g, 0, none⟩) n cap ∧ n ≤ cap ∧ cap ≤ 9223372036854775807 ∧ B ≤ g := by
  obtain ⟨hl, ⟨hv, h0⟩ | ⟨g', cap', cur, hv, h1, h2, h3, h4, h5, h6⟩⟩ := h
  · omega
  · exact ⟨g', cap', hv, h3, h4, h1⟩
theorem srcc_run {w : World} {Y i : Nat} (h : w.heap[Y]? = some (.cells #[.int .i64 (i : Nat), .int .i64 (i : Nat)] 43 (0, 0))) : SrcC w (.slice (some ⟨Y, 0, none⟩) 1 1) 1 2 (runCells [(i, i)]) :=
  ⟨rfl, .inr ⟨⟨Y, 0, none⟩, 1, rfl, fun j u hj => by
    have e : w.cell? ((⟨Y, 0, none⟩ : Addr).add j) = w.cell? ⟨Y, j, none⟩ := by rw [Addr.add_lit, Nat.zero_add]
    rw [e, cell_at h]
    simpa [runCells] using hj⟩⟩
set_option maxRecDepth 100000 in
set_option maxHeartbeats 2000000 in
theorem runs_any (w : World) {S g cap n : Nat} {m : Nat → Bool} (h : SetAt w S g cap n m) (hT : DeBr w) (hg : 15 < w.heap.size) :
    Calls Tryd.prog 22 #[.pointer (some ⟨S, 0, none⟩)] w fun e w' => ∃ v, e = .returned v ∧ w'.ownsRow w.heap.size 43 2 v (runs (Ds.mem m n)).length (runCells (runs (Ds.mem m n))) ∧ Below w.heap.size w w' := by
  have hsm := h.small
  have hcn : cnt m n ≤ n := cnt_le m n
  obtain ⟨i0, hi, hz0, hz1, hz2⟩ := info_parts info43
  have HM := hide (members_any w h hT hg)
  obtain ⟨ms, hms⟩ : ∃ ms, Ds.mem m n = ms := ⟨_, rfl⟩
  have hml : ms.length = cnt m n := by rw [← hms]; rfl
  obtain ⟨c, hc⟩ : ∃ c, cnt m n = c := ⟨_, rfl⟩
  unfold mI at HM
  rw [hms, hc] at HM
  rw [hms]
  rw [hc] at hml hcn
  have HML := hide hml
  have HLT := hide (show ∀ x ∈ ms, x < n from fun x hx => mem_lt (by rw [hms]; exact hx))
  clear h hT hms hc hml
  go_enter Tryd.func22, Tryd.ntmps22
  go_wp2_with fail
  refine HM.out.mono ?_
  rintro e w1 ⟨v1, rfl, ho1, hb1⟩
  have HO1 := hide ho1
  have HB1 := hide hb1
  obtain ⟨a1, k1, rfl⟩ := row_shape ho1
  have hs1 := hb1.size
  clear ho1 hb1 HM
  go_wp2_with fail
  go_loopw [3, 10] (fun v j wr => ∃ k : Nat, j = .int .i64 (k : Nat) ∧ k ≤ c ∧ wr.ownsRow w.heap.size 43 2 v (runs (ms.take k)).length (runCells (runs (ms.take k))) ∧ KeepTy w1 wr 3 ∧ Below w.heap.size w wr) (fun _ j _ => c - (intOf j).toNat)
  case atStart => exact ⟨0, rfl, Nat.zero_le _, World.ownsRow_nil _ _ _ _, fun _ _ _ h => h, HB1.out⟩
  case round =>
    obtain ⟨k, rfl, hk, hown, hkt, hb⟩ := hrel
    have HOW := hide hown
    have HKT := hide hkt
    have HBr := hide hb
    have hsr := hb.size
    obtain ⟨vo, vc, rfl⟩ := row_shape hown
    clear hown hkt hb
    by_cases hlt : k < c
    · obtain ⟨x, hx⟩ : ∃ x, ms[k]? = some x := ⟨_, List.getElem?_eq_getElem (by rw [HML.out]; exact hlt)⟩
      have htk : ms.take (k + 1) = ms.take k ++ [x] := by rw [List.take_add_one, hx]; rfl
      have HTK := hide htk
      obtain ⟨g1, cp1, hv1, hl1, hl2, _⟩ := row_at HO1.out (by omega)
      simp only [Value.slice.injEq, true_and] at hv1
      obtain ⟨rfl, rfl⟩ := hv1
      have hcx := (row_cell (row_keepTy HO1.out HKT.out) (j := k) (x := .int .i64 (x : Nat)) (by simp [intCells, hx])).1
      have hki : (k : Int) < (c : Int) := by omega
      obtain ⟨L, hL⟩ : ∃ L, runs (ms.take k) = L := ⟨_, rfl⟩
      have hLl : L.length ≤ k := by rw [← hL]; have := runs_len _ (ms.take k) rfl; have h2 := List.length_take_le k ms; omega
      rw [hL] at HOW ⊢
      have HL := hide hL
      obtain ⟨l, hll⟩ : ∃ l, L.length = l := ⟨_, rfl⟩
      rw [hll] at HOW hLl ⊢
      have HLL := hide hll
      have hx' := hx
      clear hx htk hL hll
      have hxn : x < n := HLT.out x (List.mem_of_getElem? hx')
      clear hx'
      have hwx : IntKind.i64.wrap ((x : Int) - 1) = (x : Int) - 1 := by rw [IntKind.wrap_i64]; omega
      by_cases hB : ∃ p, L.getLast? = some p ∧ p.2 + 1 = x
      · obtain ⟨p, hp, hpx⟩ := hB
        have hLs := snoc_of_last hp
        obtain ⟨Q, hQ⟩ : ∃ Q, L.dropLast = Q := ⟨_, rfl⟩
        rw [hQ] at hLs
        have hlq : l = Q.length + 1 := by rw [← HLL.out, hLs]; simp
        have hrn : runs (ms.take (k + 1)) = Q ++ [(p.1, x)] := by rw [HTK.out, runs_snoc, HL.out, rnStep, hp]; dsimp only; rw [if_pos hpx, hQ]
        obtain ⟨hc0, hc1⟩ := runCells_last Q p
        rw [hLs] at HOW
        obtain ⟨g2, cp2, hv2, hl3, hl4, hg2⟩ := row_at HOW.out (by omega)
        simp only [Value.slice.injEq, true_and] at hv2
        obtain ⟨rfl, rfl⟩ := hv2
        obtain ⟨q, hq⟩ : ∃ q, Q.length = q := ⟨_, rfl⟩
        rw [hq] at hc0 hc1 hlq
        subst hlq
        have hcp := row_cell HOW.out hc1
        have hcell := hcp.1
        have hfree := hcp.2
        have hput := row_put HOW.out (q * 2 + 1) (.int .i64 (x : Nat))
        rw [← hq, runCells_set, hq] at hput
        have HP := hide (show (wr.setCell ⟨g2, q * 2 + 1, none⟩ (.int .i64 (x : Nat))).ownsRow w.heap.size 43 2 (.slice (some ⟨g2, 0, none⟩) (q + 1) vc) (runs (ms.take (k + 1))).length (runCells (runs (ms.take (k + 1)))) from by
          rw [hrn, List.length_append, hq]; exact hput)
        have HK2 := hide (show KeepTy w1 (wr.setCell ⟨g2, q * 2 + 1, none⟩ (.int .i64 (x : Nat))) 3 from by
          obtain ⟨_, ⟨hv, _⟩ | ⟨g', cap', cur, hv, _, hh, _⟩⟩ := HOW.out
          · cases hv
          · simp only [Value.slice.injEq, Option.some.injEq, Addr.mk.injEq, true_and, and_true] at hv
            obtain ⟨rfl, rfl⟩ := hv
            exact HKT.out.trans (keepTy_at hh (by decide) _))
        have HB2 := hide (below_set (i := q * 2 + 1) HBr.out hg2 (.int .i64 (x : Nat)))
        have hpe : ((p.2 : Nat) : Int) = (x : Int) - 1 := by omega
        have hpe2 : (((p.2 : Nat) : Int) == (x : Int) - 1) = true := by simp; omega
        have hwq : IntKind.i64.wrap (((q + 1 : Nat) : Int) - 1) = (q : Int) := by rw [IntKind.wrap_i64]; omega
        have hq2 : q ≤ 1048576 := by omega
        clear hp hpx hLs hQ hrn hc0 hc1 hq hcp hput hpe
        go_wp2_with fail
        exact ⟨⟨k + 1, vi (by omega), by omega, HP.out, HK2.out, HB2.out⟩, by simp only [intOf]; omega⟩
      · have hrn : runs (ms.take (k + 1)) = L ++ [(x, x)] := by
          rw [HTK.out, runs_snoc, HL.out, rnStep]
          cases hp : L.getLast? with
          | none => rw [List.getLast?_eq_none_iff.1 hp]; rfl
          | some p => dsimp only; rw [if_neg (fun e => hB ⟨p, hp, e⟩)]
        obtain ⟨v6, w6, r1, r2, r3, r4⟩ := run_row (wr.alloc (.cells #[.int .i64 (x : Nat), .int .i64 (x : Nat)] 43)) w.heap.size 41 41 43 i0 _ 2 16 Tryd.underlying41 hi hz0 hz1 hz2 rfl (by decide) (.slice vo l vc) (.slice (some ⟨wr.heap.size, 0, none⟩) 1 1) l 1 (runCells L) (runCells [(x, x)]) (World.ownsRow.alloc HOW.out _) (srcc_run (heap_new rfl _)) (runCells_one _) (by simp only [maxLen]; omega) (by omega) (by rw [World.size_alloc]; omega)
        obtain ⟨vo6, vc6, rfl⟩ := row_shape r2
        have HR6 := hide r1
        have HB6 := hide (show Below w.heap.size w w6 from (HBr.out.alloc hsr _).grown r3 (by rw [World.size_alloc]; omega) (fun j hj => (World.ownsRow.lt HOW.out j hj).1))
        have HO6 := hide (show w6.ownsRow w.heap.size 43 2 (.slice vo6 (l + 1) vc6) (runs (ms.take (k + 1))).length (runCells (runs (ms.take (k + 1)))) from by
          rw [hrn, runCells_app, List.length_append, HLL.out]; exact r2)
        have HK6 := hide (show KeepTy w1 w6 3 from (HKT.out.trans (keepTy_below ((Below.refl wr.heap.size wr).alloc (Nat.le_refl _) _) 3)).trans (keepTy_grown r3 (notTy_row (World.ownsRow.alloc HOW.out _) (by decide))))
        clear r1 r2 r3 r4 hrn
        by_cases hl0 : l = 0
        · subst hl0
          clear hB
          go_wp2_with (at_builtin; refine wpList_run 41 _ w6 _ _ _ rfl (.tmp 35) (.tmp 39) rfl rfl rfl HR6.out ?_)
          go_wp2_with fail
          exact ⟨⟨k + 1, vi (by omega), by omega, HO6.out, HK6.out, HB6.out⟩, by simp only [intOf]; omega⟩
        · obtain ⟨p, hp⟩ : ∃ p, L.getLast? = some p := by
            cases hp : L.getLast? with
            | none => rw [List.getLast?_eq_none_iff.1 hp] at HLL; exact absurd HLL.out.symm hl0
            | some p => exact ⟨p, rfl⟩
          have hpx : p.2 + 1 ≠ x := fun e => hB ⟨p, hp, e⟩
          have hLs := snoc_of_last hp
          obtain ⟨Q, hQ⟩ : ∃ Q, L.dropLast = Q := ⟨_, rfl⟩
          rw [hQ] at hLs
          have hlq : l = Q.length + 1 := by rw [← HLL.out, hLs]; simp
          obtain ⟨hc0, hc1⟩ := runCells_last Q p
          have hown := HOW.out
          rw [hLs] at hown
          obtain ⟨g2, cp2, hv2, hl3, hl4, hg2⟩ := row_at HOW.out (by omega)
          simp only [Value.slice.injEq, true_and] at hv2
          obtain ⟨rfl, rfl⟩ := hv2
          obtain ⟨q, hq⟩ : ∃ q, Q.length = q := ⟨_, rfl⟩
          rw [hq] at hc0 hc1 hlq
          subst hlq
          have hcell := (row_cell hown hc1).1
          have hpe2 : (((p.2 : Nat) : Int) == (x : Int) - 1) = false := by simp; omega
          have hwq : IntKind.i64.wrap (((q + 1 : Nat) : Int) - 1) = (q : Int) := by rw [IntKind.wrap_i64]; omega
          clear hp hpx hLs hQ hc0 hc1 hq hown hB hl0
          go_wp2_with (at_builtin; refine wpList_run 41 _ w6 _ _ _ rfl (.tmp 35) (.tmp 39) rfl rfl rfl HR6.out ?_)
          go_wp2_with fail
          exact ⟨⟨k + 1, vi (by omega), by omega, HO6.out, HK6.out, HB6.out⟩, by simp only [intOf]; omega⟩
    · obtain rfl : k = c := by omega
      have HE := hide (show ms.take k = ms from List.take_of_length_le (by rw [HML.out]; exact Nat.le_refl _))
      go_wp2_with fail
      go_ret
      refine ⟨_, rfl, ?_, HBr.out⟩
      have := HOW.out
      rw [HE.out] at this ⊢
      exact this
end Go.Proofs.YtmkbbekeimnajaaDoor
