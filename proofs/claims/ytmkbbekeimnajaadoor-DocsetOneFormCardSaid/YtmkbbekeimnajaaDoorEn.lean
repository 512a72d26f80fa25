/- a set's bytes -/
import Derived.Test.YtmkbbekeimnajaaDoorPl2
import Derived.Test.YtmkbbekeimnajaaDoorWk
import Derived.Test.YtmkbbekeimnajaaDoorBo2
import Derived.Test.YtmkbbekeimnajaaDoorSa
namespace Go.Proofs.YtmkbbekeimnajaaDoor
open Go.RowKit Ds
theorem writer_keep {w w' : World} {B p : Nat} {bs : List Nat} (h : WriterIs w B p bs) (hb : Below w.heap.size w w') : WriterIs w' B p bs := by
  obtain ⟨hB, v, hp, hv⟩ := h
  exact ⟨hB, v, (hb.block p (heap_lt hp)).trans hp, row_kept hv (grown_of_below hb) (notTy_none _ _)⟩
theorem bits_octs (f : Nat → Bool) {b : Nat} (hb : b ≤ 256) (hf : ∀ i, b ≤ i → i < 256 → f i = false) (k x : Nat) (h : (bitsB f b)[k]? = some x) : (octs f)[k]? = some (.int .u8 (x : Nat)) := by
  unfold bitsB at h
  rw [List.getElem?_map, Option.map_eq_some_iff] at h
  obtain ⟨k', hk, rfl⟩ := h
  obtain ⟨hk, hkk⟩ := List.getElem?_eq_some_iff.1 hk
  rw [List.length_range] at hk
  rw [List.getElem_range] at hkk
  subst hkk
  rw [octs_get f (by omega)]
  congr 2
  unfold oct
  rw [num_congr (g := fun i => decide (8 * k + i < b) && f (8 * k + i))]
  intro i hi
  by_cases h : 8 * k + i < b
  · simp [h]
  · simp [h, hf (8 * k + i) (by omega) (by omega)]
theorem src_bits {w : World} {g : Nat} {f : Nat → Bool} {b : Nat} {fr : Nat × Nat} (hA : w.heap[g]? = some (.cells (octs f).toArray 89 fr)) (hb : b ≤ 256) (hf : ∀ i, b ≤ i → i < 256 → f i = false) :
    Src w (.slice (some ⟨g, 0, none⟩) ((b + 7) / 8 : Nat) 32) (bitsB f b) := by
  refine ⟨fun x hx => ?_, .inr ⟨⟨g, 0, none⟩, 32, by rw [bitsB_len], by rw [bitsB_len]; omega, by omega, fun k x hk => ?_⟩⟩
  · obtain ⟨k, hk, rfl⟩ := List.mem_map.1 hx
    exact num8_lt _
  · rw [Addr.add_mid, Nat.zero_add, cell_at hA]
    have := bits_octs f hb hf k x hk
    simpa using this
def zeros : Obj := .cells #[.int .u8 0, .int .u8 0, .int .u8 0, .int .u8 0, .int .u8 0, .int .u8 0, .int .u8 0, .int .u8 0, .int .u8 0, .int .u8 0, .int .u8 0, .int .u8 0, .int .u8 0, .int .u8 0, .int .u8 0, .int .u8 0, .int .u8 0, .int .u8 0, .int .u8 0, .int .u8 0, .int .u8 0, .int .u8 0, .int .u8 0, .int .u8 0, .int .u8 0, .int .u8 0, .int .u8 0, .int .u8 0, .int .u8 0, .int .u8 0, .int .u8 0, .int .u8 0] 89
set_option maxRecDepth 100000 in
set_option maxHeartbeats 2000000 in
theorem encode_any (w : World) {S g cap n : Nat} {m : Nat → Bool} (h : SetAt w S g cap n m) :
    Calls Tryd.prog 24 #[.pointer (some ⟨S, 0, none⟩)] w fun e w' => ∃ q, w.heap.size ≤ q ∧ e = .returned (.slice (some ⟨q, 0, none⟩) (Uv.uv n ++ body n m (nb n)).length (Uv.uv n ++ body n m (nb n)).length) ∧
      w'.heap[q]? = some (.cells (u8s (Uv.uv n ++ body n m (nb n))).toArray 5 (0, 0)) ∧ Below w.heap.size w w' := by
  obtain ⟨c0, c1, c2⟩ := cells3 h.hd
  have hsm := h.small
  have HS := hide h
  clear h
  go_enter Tryd.func24, Tryd.ntmps24
  go_wp2_with fail
  refine (new_writer w).mono ?_
  rintro e w1 ⟨rfl, hw1, hb1⟩
  have HW1 := hide hw1
  have HB1 := hide hb1
  have c0' := (hb1.cell (p := ⟨S, 0, none⟩) (heap_lt HS.out.hd)).trans c0
  clear hw1 hb1
  go_wp2_with fail
  refine (writer_uvarint w1 w.heap.size w.heap.size n [] (by unfold Uv.u64; omega) HW1.out (by simp)).mono ?_
  rintro e w2 ⟨rfl, hw2, hb2⟩
  have HW2 := hide (show WriterIs w2 w.heap.size w.heap.size (Uv.uv n ++ body n m 0) from by rw [body_zero, List.append_nil]; simpa using hw2)
  have HB2 := hide (HB1.out.trans hb2)
  clear hw2 hb2 HW1 HB1 c0' c0 c1 c2
  go_wp2_with fail
  go_loopw [4] (fun k wr => ∃ j : Nat, k = .int .i64 (j : Nat) ∧ j ≤ nb n ∧ WriterIs wr w.heap.size w.heap.size (Uv.uv n ++ body n m j) ∧ Below w.heap.size w wr) (fun k _ => nb n - (intOf k).toNat)
  case atStart => exact ⟨0, rfl, by omega, HW2.out, HB2.out⟩
  case round =>
    obtain ⟨j, rfl, hj, hw, hb⟩ := hrel
    have HW := hide hw
    have HBr := hide hb
    have hsr := hb.size
    clear hw hb HW2 HB2
    obtain ⟨c0, c1, c2⟩ := cells3 (HS.out.keep HBr.out).hd
    have hbl := body_len n m j
    have hul := Uv.uv_len n
    have hjn : j ≤ 4096 := by unfold nb at hj; omega
    have hwj : IntKind.i64.wrap (256 * (j : Int)) = 256 * (j : Int) := by rw [IntKind.wrap_i64]; omega
    by_cases hlt : 256 * j < n
    · have hi1 : 256 * (j : Int) < (n : Int) := by omega
      have hj1 : j + 1 ≤ nb n := by unfold nb; omega
      have hBO := block_of wr (HS.out.keep HBr.out) j hlt
      have hbs := body_succ n m j
      have hcl := cnt_le (blk m j) (wid n j)
      have hwl := wid_le n j
      have hpos : 0 < wid n j := wid_pos (nb_lt.2 hlt)
      have hoff : ∀ i, wid n j ≤ i → i < 256 → blk m j i = false := fun i h1 h2 => by
        unfold wid at h1
        exact HS.out.off _ (by omega)
      unfold encB at hbs
      obtain ⟨f, hf⟩ : ∃ f, blk m j = f := ⟨_, rfl⟩
      obtain ⟨b, hb⟩ : ∃ b, wid n j = b := ⟨_, rfl⟩
      rw [hf, hb] at hBO hbs hcl hoff
      rw [hb] at hwl hpos
      obtain ⟨c, hc⟩ : ∃ c, cnt f b = c := ⟨_, rfl⟩
      have hform := form_len f b hwl
      have hfm : form f b = form f b := rfl
      conv at hfm => rhs; unfold form
      rw [hc] at hBO hcl hfm
      have hcs := tagOf_cases b c
      have HTA := fun w => hide (tag_any w b c hwl hcl)
      obtain ⟨t, ht⟩ : ∃ t, tagOf b c = t := ⟨_, rfl⟩
      rw [ht] at hcs hfm HTA
      have HC := hide hc
      have HBS := hide hbs
      have HOF := hide hoff
      have HBO := hide hBO
      have ht4 : t < 256 := by omega
      clear hf hb hc hbs hoff hBO ht
      go_wp2_with fail
      refine HBO.out.mono ?_
      rintro e w3 ⟨rfl, hb3⟩
      have HW3 := hide (writer_keep HW.out hb3)
      have HB3 := hide (HBr.out.trans (hb3.mono hsr))
      have hs3 := HB3.out.size
      clear hb3 c0 c1 c2 HBO
      go_wp2_with (refine wpList_store_row rfl 89 (.tmp 5) (.tmp 30) rfl w3.heap.size _ rfl rfl 89 _ (heap_new rfl _) size89 rfl (octs_one _) ?_)
      have HA4 := hide (setRow_heap (w3.alloc zeros) w3.heap.size _ (octs f).toArray 89 (0, 0) (heap_new rfl _))
      have HB4 := hide (below_setRow (B := w3.heap.size) ((Below.refl _ w3).alloc (Nat.le_refl _) zeros) (Nat.le_refl _) (octs f).toArray)
      have HS4 := hide (show w3.heap.size < ((w3.alloc zeros).setRow w3.heap.size (octs f).toArray).heap.size from heap_lt HA4.out)
      unfold zeros at HA4 HB4 HS4
      generalize (w3.alloc _).setRow w3.heap.size (octs f).toArray = w4 at *
      have HW4 := hide (writer_keep HW3.out HB4.out)
      have HB4' := hide (HB3.out.trans (HB4.out.mono hs3))
      have hs4 := HB4'.out.size
      clear HB4 HW3 HB3
      go_wp2_with fail
      refine (HTA w4).out.mono ?_
      rintro e w5 ⟨rfl, rfl⟩
      go_wp2_with fail
      refine (writer_byte_k w4 w.heap.size w.heap.size t _ HW4.out (by rw [List.length_append]; omega)).mono ?_
      rintro e w5 ⟨rfl, hw5, hb5, hk5⟩
      have HW5 := hide hw5
      have HB5 := hide (HB4'.out.trans hb5)
      have HA5 := hide (hk5 _ _ _ HA4.out)
      have hs5 := HB5.out.size
      clear hw5 hb5 hk5 HW4 HB4' HA4 HTA
      rcases hcs with ⟨rfl, h0⟩ | ⟨rfl, h0, h1⟩ | ⟨rfl, h0, h1, h2, h3⟩ | ⟨rfl, h0, h1, h2, h3⟩ | ⟨rfl, h0, h1, h2, h3⟩
      · have HW6 := hide (show WriterIs w5 w.heap.size w.heap.size (Uv.uv n ++ body n m (j + 1)) from by
          rw [HBS.out, hfm, ← List.append_assoc]; exact HW5.out)
        go_wp2_with fail
        exact ⟨⟨j + 1, by simp, hj1, HW6.out, HB5.out⟩, by simp only [intOf]; omega⟩
      · have HW6 := hide (show WriterIs w5 w.heap.size w.heap.size (Uv.uv n ++ body n m (j + 1)) from by
          rw [HBS.out, hfm, ← List.append_assoc]; exact HW5.out)
        go_wp2_with fail
        exact ⟨⟨j + 1, by simp, hj1, HW6.out, HB5.out⟩, by simp only [intOf]; omega⟩
      · have hml : (Ds.mem f b).length = c := HC.out
        have hfl : (form f b).length = 2 + c := by rw [hfm]; simp [hml]; omega
        have HWB := writer_byte_k w5 w.heap.size w.heap.size (c - 1) _ HW5.out (by simp only [List.length_append, List.length_cons, List.length_nil]; omega)
        rw [show ((c - 1 : Nat) : Int) = (c : Int) - 1 by omega] at HWB
        have HWBH := hide HWB
        clear HWB
        go_wp2_with fail
        refine HWBH.out.mono ?_
        rintro e w6 ⟨rfl, hw6, hb6, hk6⟩
        have HW6 := hide hw6
        have HB6 := hide (HB5.out.trans hb6)
        have HA6 := hide (hk6 _ _ _ HA5.out)
        have hs6 := HB6.out.size
        clear hw6 hb6 hk6 HW5 HB5 HA5 HWBH
        go_wp2_with (refine wpList_load_row rfl 89 (.tmp 5) rfl w3.heap.size rfl 89 _ (0, 0) _ HA6.out Tryd.underlying89 rfl size89 ?_)
        refine (places_any w6 f b hwl true 1 rfl).mono ?_
        rintro e w7 ⟨v7, rfl, ho7, hb7⟩
        have HW7 := hide (writer_keep HW6.out hb7)
        have HB7 := hide (HB6.out.trans (hb7.mono hs6))
        have hs7 := HB7.out.size
        have HSR := hide (src_own (by simpa [Own, u8s_len] using ho7) (fun x hx => by have := mem_lt hx; omega) : Src w7 v7 (Ds.mem (sel f true) b))
        rw [mem_congr (m := sel f true) (k := f) (fun i _ => by unfold sel; cases f i <;> rfl)] at HSR
        clear ho7 hb7 HW6 HB6 HA6
        go_wp2_with fail
        refine (writer_raw_k w7 w.heap.size w.heap.size _ (Ds.mem f b) v7 HW7.out hs7 HSR.out (by simp only [List.length_append, List.length_cons, List.length_nil, hml]; omega)).mono ?_
        rintro e w8 ⟨rfl, hw8, hb8, hk8⟩
        have HW8 := hide (show WriterIs w8 w.heap.size w.heap.size (Uv.uv n ++ body n m (j + 1)) from by
          rw [HBS.out, hfm]; simpa using hw8)
        have HB8 := hide (HB7.out.trans hb8)
        clear hw8 hb8 hk8 HW7 HB7 HSR
        go_wp2_with fail
        exact ⟨⟨j + 1, by simp, hj1, HW8.out, HB8.out⟩, by simp only [intOf]; omega⟩
      · have hml : (Ds.mem (inv f) b).length = b - c := by have := cnt_inv f b; rw [HC.out] at this; exact this
        have hfl : (form f b).length = 2 + (b - c) := by rw [hfm]; simp [hml]; omega
        have HWB := writer_byte_k w5 w.heap.size w.heap.size (b - c - 1) _ HW5.out (by simp only [List.length_append, List.length_cons, List.length_nil]; omega)
        rw [show ((b - c - 1 : Nat) : Int) = (b : Int) - (c : Int) - 1 by omega] at HWB
        have HWBH := hide HWB
        clear HWB
        go_wp2_with fail
        refine HWBH.out.mono ?_
        rintro e w6 ⟨rfl, hw6, hb6, hk6⟩
        have HW6 := hide hw6
        have HB6 := hide (HB5.out.trans hb6)
        have HA6 := hide (hk6 _ _ _ HA5.out)
        have hs6 := HB6.out.size
        clear hw6 hb6 hk6 HW5 HB5 HA5 HWBH
        go_wp2_with (refine wpList_load_row rfl 89 (.tmp 5) rfl w3.heap.size rfl 89 _ (0, 0) _ HA6.out Tryd.underlying89 rfl size89 ?_)
        refine (places_any w6 f b hwl false 0 rfl).mono ?_
        rintro e w7 ⟨v7, rfl, ho7, hb7⟩
        have HW7 := hide (writer_keep HW6.out hb7)
        have HB7 := hide (HB6.out.trans (hb7.mono hs6))
        have hs7 := HB7.out.size
        have HSR := hide (src_own (by simpa [Own, u8s_len] using ho7) (fun x hx => by have := mem_lt hx; omega) : Src w7 v7 (Ds.mem (sel f false) b))
        rw [mem_congr (m := sel f false) (k := inv f) (fun i _ => by unfold sel inv; cases f i <;> rfl)] at HSR
        clear ho7 hb7 HW6 HB6 HA6
        go_wp2_with fail
        refine (writer_raw_k w7 w.heap.size w.heap.size _ (Ds.mem (inv f) b) v7 HW7.out hs7 HSR.out (by simp only [List.length_append, List.length_cons, List.length_nil, hml]; omega)).mono ?_
        rintro e w8 ⟨rfl, hw8, hb8, hk8⟩
        have HW8 := hide (show WriterIs w8 w.heap.size w.heap.size (Uv.uv n ++ body n m (j + 1)) from by
          rw [HBS.out, hfm]; simpa using hw8)
        have HB8 := hide (HB7.out.trans hb8)
        clear hw8 hb8 hk8 HW7 HB7 HSR
        go_wp2_with fail
        exact ⟨⟨j + 1, by simp, hj1, HW8.out, HB8.out⟩, by simp only [intOf]; omega⟩
      · have hfl : (form f b).length = 1 + (b + 7) / 8 := by rw [hfm]; simp [bitsB_len]; omega
        have HSR := hide (src_bits HA5.out hwl HOF.out)
        have h78 : ((b : Int) + 7) / 8 = (((b + 7) / 8 : Nat) : Int) := by omega
        have hq32 : (b + 7) / 8 ≤ 32 := by omega
        obtain ⟨i0, hi, hz0, hz1, hz2⟩ := info_parts info5
        go_wp2_with (refine wpList_slice_arr rfl 89 (.tmp 5) (.tmp 71) rfl w3.heap.size rfl ((b + 7) / 8) 32 rfl 5 Tryd.underlying89 i0 hi hq32 (by decide) ?_; simp only [Act.put, List.setIfInBounds_toArray, List.set_cons_succ, List.set_cons_zero])
        have HRW := writer_raw_k w5 w.heap.size w.heap.size _ (bitsB f b) _ HW5.out hs5 HSR.out (by simp only [List.length_append, List.length_cons, List.length_nil, bitsB_len]; omega)
        refine HRW.mono ?_
        rintro e w8 ⟨rfl, hw8, hb8, hk8⟩
        have HW8 := hide (show WriterIs w8 w.heap.size w.heap.size (Uv.uv n ++ body n m (j + 1)) from by
          rw [HBS.out, hfm]; simpa using hw8)
        have HB8 := hide (HB5.out.trans hb8)
        clear hw8 hb8 hk8 HRW HSR
        go_wp2_with fail
        exact ⟨⟨j + 1, by simp, hj1, HW8.out, HB8.out⟩, by simp only [intOf]; omega⟩
    · have hi1 : ¬ 256 * (j : Int) < (n : Int) := by omega
      have hjj : j = nb n := by unfold nb at hj ⊢; omega
      subst hjj
      go_wp2_with fail
      refine (writer_bytes wr w.heap.size w.heap.size _ HW.out (fun x hx => ?_) (by rw [List.length_append]; omega)).mono ?_
      · rcases List.mem_append.1 hx with hx | hx
        · exact Uv.uv_lt n (by omega) x hx
        · exact body_lt n m (nb n) x hx
      rintro e w4 ⟨rfl, hh, hb4⟩
      have HB4 := hide (hb4.mono hsr)
      have HH := hide hh
      clear hb4 hh c0 c1 c2
      go_wp2_with fail
      go_ret
      exact ⟨wr.heap.size + 1, by omega, by rw [List.length_append]; rfl, HH.out, HBr.out.trans HB4.out⟩
end Go.Proofs.YtmkbbekeimnajaaDoor
