/- texts of this proof, one behind the other: Bo2 Sa En Fx Eq Ix Nm Rn -/
import Derived.Test.YtmkbbekeimnajaaDoorMCanon0
import Derived.Test.YtmkbbekeimnajaaDoorMCanon1
import Derived.Test.YtmkbbekeimnajaaDoorMCanon2
import Derived.Test.YtmkbbekeimnajaaDoorMCanon3
import Derived.Laws.Rows
import Derived.Laws.Tables
/-! Bo2: blockOf -/
namespace Go.Proofs.YtmkbbekeimnajaaDoor
open Go.RowKit Ds
theorem size89 : (Tryd.prog.info? 89).map (·.size) = some 32 := by kernel_rfl
theorem octs_one (m : Nat → Bool) : (octs m).toArray.all (·.oneCell') = true := by
  rw [Array.all_eq_true']
  intro u hu
  simp only [List.mem_toArray, octs, List.mem_map] at hu
  obtain ⟨j, _, rfl⟩ := hu
  rfl
theorem cnt_step (m : Nat → Bool) (i : Nat) (b : Bool) (h : m i = b) : cnt m (i + 1) = cnt m i + if b then 1 else 0 := by rw [cnt_succ, h]
theorem results_cell3 {P : Program} {fn : Func} {p u v : Tmp} {ty : TypeId} (h : fn.results = #[.cell p ty, .tmp u, .tmp v]) (tmps : Array Value) (w : World) (g : Nat) (t : TypeId) (cs : Array Value) (fr : Nat × Nat) (d : TypeDesc)
    (hp : tmps.getD p undef = .pointer (some ⟨g, 0, none⟩)) (hg : w.heap[g]? = some (.cells cs t fr))
    (hu : P.underlying ty = some d) (hd : (match d with | .struct _ | .array _ _ => true | _ => false) = true) (hi : (P.info? ty).map (·.size) = some cs.size) :
    (results fn tmps).run P w = .ok (.tuple #[.agg cs, tmps.getD u undef, tmps.getD v undef]) w := by
  have hp' : tmps[p]?.getD undef = .pointer (some ⟨g, 0, none⟩) := by simpa using hp
  simp [results, h, hp', asAddr, run_loadVar_row w g t ty cs fr d hg hu hd hi, Result.andThen]
set_option maxRecDepth 100000 in
set_option maxHeartbeats 4000000 in
theorem block_of (w : World) {S g cap n : Nat} {m : Nat → Bool} (h : SetAt w S g cap n m) (j : Nat) (hj : 256 * j < n) :
    Calls Tryd.prog 49 #[.pointer (some ⟨S, 0, none⟩), .int .i64 (j : Nat)] w fun e w' => e = .returned (.tuple #[.agg (octs (blk m j)).toArray, .int .i64 (wid n j : Nat), .int .i64 (cnt (blk m j) (wid n j) : Nat)]) ∧ Below w.heap.size w w' := by
  have HS := hide h
  have hsm := h.small
  have hq := ((Below.refl w.heap.size w).alloc (Nat.le_refl _) (.cells (octs (fun _ => false)).toArray 89)).alloc (by simp) (.cells (octs (fun _ => false)).toArray 89)
  have HB := hide hq
  have HA := hide (heap_alloc2_old w (.cells (octs (fun _ => false)).toArray 89) (.cells (octs (fun _ => false)).toArray 89))
  have HN := hide (heap_alloc2_new w (.cells (octs (fun _ => false)).toArray 89) (.cells (octs (fun _ => false)).toArray 89))
  rw [← octs_none] at hq HB HA HN
  have HZ := hide octs_none
  obtain ⟨b, hb⟩ : ∃ b, wid n j = b := ⟨_, rfl⟩
  have hbw : b ≤ 256 := by rw [← hb]; exact wid_le n j
  have hmin : min (256 : Int) ((n : Int) - 256 * (j : Int)) = (b : Int) := by rw [← hb]; unfold wid; omega
  have hif : (if (n : Int) - 256 * (j : Int) < 256 then (n : Int) - 256 * (j : Int) else 256) = (b : Int) := by rw [← hb]; unfold wid; split <;> omega
  have hbn : 256 * j + b ≤ n := by rw [← hb]; unfold wid; omega
  have HBE := hide hb
  rw [hb]
  obtain ⟨c0, c1, c2⟩ := cells3 (HS.out.keep hq).hd
  obtain ⟨f, hf⟩ : ∃ f, blk m j = f := ⟨_, rfl⟩
  have HF := hide (fun i => congrFun hf i)
  rw [hf]
  have HFE := hide hf
  clear hf
  clear hb hq h
  go_enter Tryd.func49, Tryd.ntmps49
  go_upto_region 2 with (fail)
  generalize (w.alloc _).alloc _ = w2 at *
  have hs2 := HB.out.size
  rw [HZ.out] at HA HN
  go_wp2_with fail
  clear c0 c1 c2 hmin hif
  go_loopw [9, 20] (fun c k wr => ∃ i : Nat, k = .int .i64 (i : Nat) ∧ c = .int .i64 (cnt f i : Nat) ∧ i ≤ b ∧ wr.heap[w.heap.size + 1]? = some (.cells (octs (below f i)).toArray 89 (0, 0)) ∧ wr.heap[w.heap.size]? = some (.cells (octs (fun _ => false)).toArray 89 (0, 0)) ∧ Below w.heap.size w wr) (fun _ k _ => b - (intOf k).toNat)
  case atStart => exact ⟨0, rfl, by simp [cnt, Ds.mem], by omega, by rw [below_zero]; exact HN.out, HA.out, HB.out⟩
  case round =>
    obtain ⟨i, rfl, rfl, hi, hk1, hk2, hbr⟩ := hrel
    have HK1 := hide hk1
    have HK2 := hide hk2
    have HBr := hide hbr
    have hsr := hbr.size
    clear hk1 hk2 hbr HA HN HB
    by_cases hlt : i < b
    · have hi1 : (i : Int) < (b : Int) := by omega
      obtain ⟨y, hy⟩ : ∃ y, 256 * j + i = y := ⟨_, rfl⟩
      have hyi : 256 * (j : Int) + (i : Int) = (y : Int) := by omega
      have hyn : y < n := by omega
      have HHA := hide (has_in wr (HS.out.keep HBr.out) y hyn)
      have hmy : m y = f i := by rw [← hy]; exact HF.out i
      rw [hmy] at HHA
      clear hy hmy
      have hcf : cnt f i ≤ i := cnt_le f i
      cases hm : f i with
      | true =>
        rw [hm] at HHA
        obtain ⟨q, hq⟩ : ∃ q, i / 8 = q := ⟨_, rfl⟩
        obtain ⟨r, hr⟩ : ∃ r, i % 8 = r := ⟨_, rfl⟩
        have hqi : (i : Int) / 8 = (q : Int) := by omega
        have hri : (i : Int) % 8 = (r : Int) := by omega
        have hq32 : q < 32 := by omega
        have hO := or_bit8 (below f i) i
        rw [hq, hr, IntKind.wrap_u8] at hO
        have HPU := hide (show ((octs (below f i)).toArray.setIfInBounds q (.int .u8 (oct (put (below f i) i true) q : Nat))) = (octs (below f (i + 1))).toArray from by rw [← hq, octs_put, below_yes hm])
        have HC := hide (cnt_step f i true hm)
        have hcc : wr.cell? ⟨w.heap.size + 1, q, none⟩ = some (.int .u8 (oct (below f i) q : Nat)) := by
          rw [cell_at HK1.out]
          have := octs_get (below f i) hq32
          simpa using this
        have hff := free_at HK1.out q
        have hw1 : IntKind.i64.wrap ((cnt f i : Int) + 1) = (cnt f i : Int) + 1 := by rw [IntKind.wrap_i64]; omega
        have hr8 : r < 8 := by omega
        clear hq hr hm
        go_wp2_with fail
        refine HHA.out.mono ?_
        rintro e wz ⟨rfl, rfl⟩
        go_wp2_with fail
        go_region
        go_wp2_with fail
        refine ⟨⟨i + 1, by simp, by rw [HC.out]; simp, by omega, ?_, heap_else HK2.out (by omega) _, (below_set HBr.out (by omega) _).drew⟩, by simp [intOf]; omega⟩
        show (wr.setCell ⟨w.heap.size + 1, q, none⟩ (.int .u8 (oct (put (below f i) i true) q : Nat))).heap[w.heap.size + 1]? = _
        rw [heap_set HK1.out, HPU.out]
      | false =>
        rw [hm] at HHA
        have HBE2 := hide (below_no hm)
        have HC := hide (cnt_step f i false hm)
        clear hm
        go_wp2_with fail
        refine HHA.out.mono ?_
        rintro e wz ⟨rfl, rfl⟩
        go_wp2_with fail
        exact ⟨⟨i + 1, by simp, by rw [HC.out]; simp, by omega, by rw [HBE2.out]; exact HK1.out, HK2.out, HBr.out⟩, by simp [intOf]; omega⟩
    · obtain rfl : i = b := by omega
      go_wp2_with (first
        | refine wpList_load_row rfl 89 (.tmp 7) rfl (w.heap.size + 1) rfl 89 _ (0, 0) _ HK1.out Tryd.underlying89 rfl size89 ?_
        | refine wpList_store_row rfl 89 (.tmp 4) (.tmp 41) rfl w.heap.size _ rfl rfl 89 _ HK2.out size89 rfl (octs_one _) ?_)
      have hset := setRow_heap wr w.heap.size _ (octs (below f i)).toArray 89 (0, 0) HK2.out
      refine bodyPost_ret (results_cell3 rfl _ _ w.heap.size 89 _ (0, 0) _ rfl hset Tryd.underlying89 rfl size89) rfl ⟨?_, ?_⟩
      · have he : octs (below f i) = octs f := octs_congr fun k hk => by
          unfold below
          by_cases hkb : k < i
          · rw [decide_eq_true hkb, Bool.true_and]
          · rw [decide_eq_false hkb, Bool.false_and, ← HFE.out]
            have := HBE.out
            unfold wid at this
            exact (HS.out.off (256 * j + k) (by omega)).symm
        rw [he]
        rfl
      · exact below_setRow HBr.out (Nat.le_refl _) _
end Go.Proofs.YtmkbbekeimnajaaDoor

/-! Sa: the slice of an array variable -/
namespace Go.Proofs.YtmkbbekeimnajaaDoor
open Go.RowKit
theorem wpList_slice_arr {P : Program} {ops : Array Oper} {rest : List Oper} {o : Oper} {a : Act} {w : World} {Q : Exit → Act → World → Prop} (hgd : o.guard = none) (ty : TypeId) (x y : Operand) (ho : o.op = .slice ty x none (some y) none)
    (g : Nat) (hx : a.eval x = .pointer (some ⟨g, 0, none⟩)) (q N : Nat) (hh : a.eval y = .int .i64 (q : Nat)) (el : TypeId) (hu : P.underlying ty = some (.array N el)) (i : TypeInfo) (hi : P.info? el = some i) (hq : q ≤ N) (hN : N ≠ 0)
    (h : wpList P ops Q rest (a.put o.dst (.slice (some ⟨g, 0, none⟩) q N)) w) : wpList P ops Q (o :: rest) a w :=
  wpList_plain hgd fun _ hK => by
    have hb : (⟨g, 0, none⟩ : Addr).add 0 = ⟨g, 0, none⟩ := by unfold Addr.add; split <;> simp_all
    unfold Oper.wp execOp
    simp only [ho, hx, hh, Option.map, Instr.sliceAt, Instr.sureAddr, Instr.sliceBounds, Instr.sliceBound, Sem.run_bind, Sem.run_pure, Result.andThen_ok, run_underlying hu]
    simp [asIntOf, Sem.run_pure, hN, hq, sizeOf, typeInfo, hi, hb]
    exact hK _ _ h
end Go.Proofs.YtmkbbekeimnajaaDoor

/-! En: a set's bytes -/
namespace Go.Proofs.YtmkbbekeimnajaaDoor
open Go.RowKit Ds
theorem writer_keep {w w' : World} {B p : Nat} {bs : List Nat} (h : WriterIs w B p bs) (hb : Below w.heap.size w w') : WriterIs w' B p bs := by
  obtain ⟨hB, v, hp, hv⟩ := h
  exact ⟨hB, v, (hb.block p (heap_lt hp)).trans hp, row_kept hv (grown_of_below hb) (notTy_none _ _)⟩
theorem bits_octs (f : Nat → Bool) {b : Nat} (hb : b ≤ 256) (hf : ∀ i, b ≤ i → i < 256 → f i = false) (k x : Nat) (h : (bitsB f b)[k]? = some x) : (octs f)[k]? = some (.int .u8 (x : Nat)) := by
  unfold bitsB at h
  rw [List.getElem?_map, Option.map_eq_some_iff] at h
  obtain ⟨k', hk, rfl⟩ := h
  obtain ⟨hk, hkk⟩ := List.getElem?_eq_some_iff.1 hk
  rw [List.length_range] at hk
  rw [List.getElem_range] at hkk
  subst hkk
  rw [octs_get f (by omega)]
  congr 2
  unfold oct
  rw [num_congr (g := fun i => decide (8 * k + i < b) && f (8 * k + i))]
  intro i hi
  by_cases h : 8 * k + i < b
  · simp [h]
  · simp [h, hf (8 * k + i) (by omega) (by omega)]
theorem src_bits {w : World} {g : Nat} {f : Nat → Bool} {b : Nat} {fr : Nat × Nat} (hA : w.heap[g]? = some (.cells (octs f).toArray 89 fr)) (hb : b ≤ 256) (hf : ∀ i, b ≤ i → i < 256 → f i = false) :
    Src w (.slice (some ⟨g, 0, none⟩) ((b + 7) / 8 : Nat) 32) (bitsB f b) := by
  refine ⟨fun x hx => ?_, .inr ⟨⟨g, 0, none⟩, 32, by rw [bitsB_len], by rw [bitsB_len]; omega, by omega, fun k x hk => ?_⟩⟩
  · obtain ⟨k, hk, rfl⟩ := List.mem_map.1 hx
    exact num8_lt _
  · rw [Addr.add_mid, Nat.zero_add, cell_at hA]
    have := bits_octs f hb hf k x hk
    simpa using this
def zeros : Obj := .cells #[.int .u8 0, .int .u8 0, .int .u8 0, .int .u8 0, .int .u8 0, .int .u8 0, .int .u8 0, .int .u8 0, .int .u8 0, .int .u8 0, .int .u8 0, .int .u8 0, .int .u8 0, .int .u8 0, .int .u8 0, .int .u8 0, .int .u8 0, .int .u8 0, .int .u8 0, .int .u8 0, .int .u8 0, .int .u8 0, .int .u8 0, .int .u8 0, .int .u8 0, .int .u8 0, .int .u8 0, .int .u8 0, .int .u8 0, .int .u8 0, .int .u8 0, .int .u8 0] 89
set_option maxRecDepth 100000 in
set_option maxHeartbeats 2000000 in
theorem encode_any (w : World) {S g cap n : Nat} {m : Nat → Bool} (h : SetAt w S g cap n m) :
    Calls Tryd.prog 24 #[.pointer (some ⟨S, 0, none⟩)] w fun e w' => ∃ q, w.heap.size ≤ q ∧ e = .returned (.slice (some ⟨q, 0, none⟩) (Uv.uv n ++ body n m (nb n)).length (Uv.uv n ++ body n m (nb n)).length) ∧
      w'.heap[q]? = some (.cells (u8s (Uv.uv n ++ body n m (nb n))).toArray 5 (0, 0)) ∧ Below w.heap.size w w' := by
  obtain ⟨c0, c1, c2⟩ := cells3 h.hd
  have hsm := h.small
  have HS := hide h
  clear h
  go_enter Tryd.func24, Tryd.ntmps24
  go_wp2_with fail
  refine (new_writer w).mono ?_
  rintro e w1 ⟨rfl, hw1, hb1⟩
  have HW1 := hide hw1
  have HB1 := hide hb1
  have c0' := (hb1.cell (p := ⟨S, 0, none⟩) (heap_lt HS.out.hd)).trans c0
  clear hw1 hb1
  go_wp2_with fail
  refine (writer_uvarint w1 w.heap.size w.heap.size n [] (by unfold Uv.u64; omega) HW1.out (by simp)).mono ?_
  rintro e w2 ⟨rfl, hw2, hb2⟩
  have HW2 := hide (show WriterIs w2 w.heap.size w.heap.size (Uv.uv n ++ body n m 0) from by rw [body_zero, List.append_nil]; simpa using hw2)
  have HB2 := hide (HB1.out.trans hb2)
  clear hw2 hb2 HW1 HB1 c0' c0 c1 c2
  go_wp2_with fail
  go_loopw [4] (fun k wr => ∃ j : Nat, k = .int .i64 (j : Nat) ∧ j ≤ nb n ∧ WriterIs wr w.heap.size w.heap.size (Uv.uv n ++ body n m j) ∧ Below w.heap.size w wr) (fun k _ => nb n - (intOf k).toNat)
  case atStart => exact ⟨0, rfl, by omega, HW2.out, HB2.out⟩
  case round =>
    obtain ⟨j, rfl, hj, hw, hb⟩ := hrel
    have HW := hide hw
    have HBr := hide hb
    have hsr := hb.size
    clear hw hb HW2 HB2
    obtain ⟨c0, c1, c2⟩ := cells3 (HS.out.keep HBr.out).hd
    have hbl := body_len n m j
    have hul := Uv.uv_len n
    have hjn : j ≤ 4096 := by unfold nb at hj; omega
    have hwj : IntKind.i64.wrap (256 * (j : Int)) = 256 * (j : Int) := by rw [IntKind.wrap_i64]; omega
    by_cases hlt : 256 * j < n
    · have hi1 : 256 * (j : Int) < (n : Int) := by omega
      have hj1 : j + 1 ≤ nb n := by unfold nb; omega
      have hBO := block_of wr (HS.out.keep HBr.out) j hlt
      have hbs := body_succ n m j
      have hcl := cnt_le (blk m j) (wid n j)
      have hwl := wid_le n j
      have hpos : 0 < wid n j := wid_pos (nb_lt.2 hlt)
      have hoff : ∀ i, wid n j ≤ i → i < 256 → blk m j i = false := fun i h1 h2 => by
        unfold wid at h1
        exact HS.out.off _ (by omega)
      unfold encB at hbs
      obtain ⟨f, hf⟩ : ∃ f, blk m j = f := ⟨_, rfl⟩
      obtain ⟨b, hb⟩ : ∃ b, wid n j = b := ⟨_, rfl⟩
      rw [hf, hb] at hBO hbs hcl hoff
      rw [hb] at hwl hpos
      obtain ⟨c, hc⟩ : ∃ c, cnt f b = c := ⟨_, rfl⟩
      have hform := form_len f b hwl
      have hfm : form f b = form f b := rfl
      conv at hfm => rhs; unfold form
      rw [hc] at hBO hcl hfm
      have hcs := tagOf_cases b c
      have HTA := fun w => hide (tag_any w b c hwl hcl)
      obtain ⟨t, ht⟩ : ∃ t, tagOf b c = t := ⟨_, rfl⟩
      rw [ht] at hcs hfm HTA
      have HC := hide hc
      have HBS := hide hbs
      have HOF := hide hoff
      have HBO := hide hBO
      have ht4 : t < 256 := by omega
      clear hf hb hc hbs hoff hBO ht
      go_wp2_with fail
      refine HBO.out.mono ?_
      rintro e w3 ⟨rfl, hb3⟩
      have HW3 := hide (writer_keep HW.out hb3)
      have HB3 := hide (HBr.out.trans (hb3.mono hsr))
      have hs3 := HB3.out.size
      clear hb3 c0 c1 c2 HBO
      go_wp2_with (refine wpList_store_row rfl 89 (.tmp 5) (.tmp 30) rfl w3.heap.size _ rfl rfl 89 _ (heap_new rfl _) size89 rfl (octs_one _) ?_)
      have HA4 := hide (setRow_heap (w3.alloc zeros) w3.heap.size _ (octs f).toArray 89 (0, 0) (heap_new rfl _))
      have HB4 := hide (below_setRow (B := w3.heap.size) ((Below.refl _ w3).alloc (Nat.le_refl _) zeros) (Nat.le_refl _) (octs f).toArray)
      have HS4 := hide (show w3.heap.size < ((w3.alloc zeros).setRow w3.heap.size (octs f).toArray).heap.size from heap_lt HA4.out)
      unfold zeros at HA4 HB4 HS4
      generalize (w3.alloc _).setRow w3.heap.size (octs f).toArray = w4 at *
      have HW4 := hide (writer_keep HW3.out HB4.out)
      have HB4' := hide (HB3.out.trans (HB4.out.mono hs3))
      have hs4 := HB4'.out.size
      clear HB4 HW3 HB3
      go_wp2_with fail
      refine (HTA w4).out.mono ?_
      rintro e w5 ⟨rfl, rfl⟩
      go_wp2_with fail
      refine (writer_byte_k w4 w.heap.size w.heap.size t _ HW4.out (by rw [List.length_append]; omega)).mono ?_
      rintro e w5 ⟨rfl, hw5, hb5, hk5⟩
      have HW5 := hide hw5
      have HB5 := hide (HB4'.out.trans hb5)
      have HA5 := hide (hk5 _ _ _ HA4.out)
      have hs5 := HB5.out.size
      clear hw5 hb5 hk5 HW4 HB4' HA4 HTA
      rcases hcs with ⟨rfl, h0⟩ | ⟨rfl, h0, h1⟩ | ⟨rfl, h0, h1, h2, h3⟩ | ⟨rfl, h0, h1, h2, h3⟩ | ⟨rfl, h0, h1, h2, h3⟩
      · have HW6 := hide (show WriterIs w5 w.heap.size w.heap.size (Uv.uv n ++ body n m (j + 1)) from by
          rw [HBS.out, hfm, ← List.append_assoc]; exact HW5.out)
        go_wp2_with fail
        exact ⟨⟨j + 1, by simp, hj1, HW6.out, HB5.out⟩, by simp only [intOf]; omega⟩
      · have HW6 := hide (show WriterIs w5 w.heap.size w.heap.size (Uv.uv n ++ body n m (j + 1)) from by
          rw [HBS.out, hfm, ← List.append_assoc]; exact HW5.out)
        go_wp2_with fail
        exact ⟨⟨j + 1, by simp, hj1, HW6.out, HB5.out⟩, by simp only [intOf]; omega⟩
      · have hml : (Ds.mem f b).length = c := HC.out
        have hfl : (form f b).length = 2 + c := by rw [hfm]; simp [hml]; omega
        have HWB := writer_byte_k w5 w.heap.size w.heap.size (c - 1) _ HW5.out (by simp only [List.length_append, List.length_cons, List.length_nil]; omega)
        rw [show ((c - 1 : Nat) : Int) = (c : Int) - 1 by omega] at HWB
        have HWBH := hide HWB
        clear HWB
        go_wp2_with fail
        refine HWBH.out.mono ?_
        rintro e w6 ⟨rfl, hw6, hb6, hk6⟩
        have HW6 := hide hw6
        have HB6 := hide (HB5.out.trans hb6)
        have HA6 := hide (hk6 _ _ _ HA5.out)
        have hs6 := HB6.out.size
        clear hw6 hb6 hk6 HW5 HB5 HA5 HWBH
        go_wp2_with (refine wpList_load_row rfl 89 (.tmp 5) rfl w3.heap.size rfl 89 _ (0, 0) _ HA6.out Tryd.underlying89 rfl size89 ?_)
        refine (places_any w6 f b hwl true 1 rfl).mono ?_
        rintro e w7 ⟨v7, rfl, ho7, hb7⟩
        have HW7 := hide (writer_keep HW6.out hb7)
        have HB7 := hide (HB6.out.trans (hb7.mono hs6))
        have hs7 := HB7.out.size
        have HSR := hide (src_own (by simpa [Own, u8s_len] using ho7) (fun x hx => by have := mem_lt hx; omega) : Src w7 v7 (Ds.mem (sel f true) b))
        rw [mem_congr (m := sel f true) (k := f) (fun i _ => by unfold sel; cases f i <;> rfl)] at HSR
        clear ho7 hb7 HW6 HB6 HA6
        go_wp2_with fail
        refine (writer_raw_k w7 w.heap.size w.heap.size _ (Ds.mem f b) v7 HW7.out hs7 HSR.out (by simp only [List.length_append, List.length_cons, List.length_nil, hml]; omega)).mono ?_
        rintro e w8 ⟨rfl, hw8, hb8, hk8⟩
        have HW8 := hide (show WriterIs w8 w.heap.size w.heap.size (Uv.uv n ++ body n m (j + 1)) from by
          rw [HBS.out, hfm]; simpa using hw8)
        have HB8 := hide (HB7.out.trans hb8)
        clear hw8 hb8 hk8 HW7 HB7 HSR
        go_wp2_with fail
        exact ⟨⟨j + 1, by simp, hj1, HW8.out, HB8.out⟩, by simp only [intOf]; omega⟩
      · have hml : (Ds.mem (inv f) b).length = b - c := by have := cnt_inv f b; rw [HC.out] at this; exact this
        have hfl : (form f b).length = 2 + (b - c) := by rw [hfm]; simp [hml]; omega
        have HWB := writer_byte_k w5 w.heap.size w.heap.size (b - c - 1) _ HW5.out (by simp only [List.length_append, List.length_cons, List.length_nil]; omega)
        rw [show ((b - c - 1 : Nat) : Int) = (b : Int) - (c : Int) - 1 by omega] at HWB
        have HWBH := hide HWB
        clear HWB
        go_wp2_with fail
        refine HWBH.out.mono ?_
        rintro e w6 ⟨rfl, hw6, hb6, hk6⟩
        have HW6 := hide hw6
        have HB6 := hide (HB5.out.trans hb6)
        have HA6 := hide (hk6 _ _ _ HA5.out)
        have hs6 := HB6.out.size
        clear hw6 hb6 hk6 HW5 HB5 HA5 HWBH
        go_wp2_with (refine wpList_load_row rfl 89 (.tmp 5) rfl w3.heap.size rfl 89 _ (0, 0) _ HA6.out Tryd.underlying89 rfl size89 ?_)
        refine (places_any w6 f b hwl false 0 rfl).mono ?_
        rintro e w7 ⟨v7, rfl, ho7, hb7⟩
        have HW7 := hide (writer_keep HW6.out hb7)
        have HB7 := hide (HB6.out.trans (hb7.mono hs6))
        have hs7 := HB7.out.size
        have HSR := hide (src_own (by simpa [Own, u8s_len] using ho7) (fun x hx => by have := mem_lt hx; omega) : Src w7 v7 (Ds.mem (sel f false) b))
        rw [mem_congr (m := sel f false) (k := inv f) (fun i _ => by unfold sel inv; cases f i <;> rfl)] at HSR
        clear ho7 hb7 HW6 HB6 HA6
        go_wp2_with fail
        refine (writer_raw_k w7 w.heap.size w.heap.size _ (Ds.mem (inv f) b) v7 HW7.out hs7 HSR.out (by simp only [List.length_append, List.length_cons, List.length_nil, hml]; omega)).mono ?_
        rintro e w8 ⟨rfl, hw8, hb8, hk8⟩
        have HW8 := hide (show WriterIs w8 w.heap.size w.heap.size (Uv.uv n ++ body n m (j + 1)) from by
          rw [HBS.out, hfm]; simpa using hw8)
        have HB8 := hide (HB7.out.trans hb8)
        clear hw8 hb8 hk8 HW7 HB7 HSR
        go_wp2_with fail
        exact ⟨⟨j + 1, by simp, hj1, HW8.out, HB8.out⟩, by simp only [intOf]; omega⟩
      · have hfl : (form f b).length = 1 + (b + 7) / 8 := by rw [hfm]; simp [bitsB_len]; omega
        have HSR := hide (src_bits HA5.out hwl HOF.out)
        have h78 : ((b : Int) + 7) / 8 = (((b + 7) / 8 : Nat) : Int) := by omega
        have hq32 : (b + 7) / 8 ≤ 32 := by omega
        obtain ⟨i0, hi, hz0, hz1, hz2⟩ := info_parts info5
        go_wp2_with (refine wpList_slice_arr rfl 89 (.tmp 5) (.tmp 71) rfl w3.heap.size rfl ((b + 7) / 8) 32 rfl 5 Tryd.underlying89 i0 hi hq32 (by decide) ?_; simp only [Act.put, List.setIfInBounds_toArray, List.set_cons_succ, List.set_cons_zero])
        have HRW := writer_raw_k w5 w.heap.size w.heap.size _ (bitsB f b) _ HW5.out hs5 HSR.out (by simp only [List.length_append, List.length_cons, List.length_nil, bitsB_len]; omega)
        refine HRW.mono ?_
        rintro e w8 ⟨rfl, hw8, hb8, hk8⟩
        have HW8 := hide (show WriterIs w8 w.heap.size w.heap.size (Uv.uv n ++ body n m (j + 1)) from by
          rw [HBS.out, hfm]; simpa using hw8)
        have HB8 := hide (HB5.out.trans hb8)
        clear hw8 hb8 hk8 HRW HSR
        go_wp2_with fail
        exact ⟨⟨j + 1, by simp, hj1, HW8.out, HB8.out⟩, by simp only [intOf]; omega⟩
    · have hi1 : ¬ 256 * (j : Int) < (n : Int) := by omega
      have hjj : j = nb n := by unfold nb at hj ⊢; omega
      subst hjj
      go_wp2_with fail
      refine (writer_bytes wr w.heap.size w.heap.size _ HW.out (fun x hx => ?_) (by rw [List.length_append]; omega)).mono ?_
      · rcases List.mem_append.1 hx with hx | hx
        · exact Uv.uv_lt n (by omega) x hx
        · exact body_lt n m (nb n) x hx
      rintro e w4 ⟨rfl, hh, hb4⟩
      have HB4 := hide (hb4.mono hsr)
      have HH := hide hh
      clear hb4 hh c0 c1 c2
      go_wp2_with fail
      go_ret
      exact ⟨wr.heap.size + 1, by omega, by rw [List.length_append]; rfl, HH.out, HBr.out.trans HB4.out⟩
end Go.Proofs.YtmkbbekeimnajaaDoor

/-! Fx: the law's own words at the start of each law: a set of four numbers -/
namespace Go.Proofs.YtmkbbekeimnajaaDoor
open Go.RowKit Ds
theorem fx_cnt : cnt (mOf [7, 2, 2, 3]) 10 = 3 := by decide
theorem fx_mem : mI (mOf [7, 2, 2, 3]) 10 = [2, 3, 7] := by decide
theorem fx_enc : Uv.uv 10 ++ body 10 (mOf [7, 2, 2, 3]) (nb 10) = [10, 4, 140, 0] := by decide
theorem ints_own {w : World} {B : Nat} {v : Value} {zs : List Int} (h : w.ownsRow B 3 1 v zs.length (intCells zs)) : Ints w v zs := by
  rcases Joins.ownsRow_forms h with ⟨rfl, h0⟩ | ⟨g, cap, rfl⟩
  · exact .inl ⟨rfl, List.eq_nil_of_length_eq_zero h0⟩
  · refine .inr ⟨_, cap, rfl, ?_, ?_, fun k x hk => ?_⟩
    · rcases h.2 with ⟨h0, _⟩ | ⟨g', cap', cur, hv, _, _, hl, _⟩
      · cases h0
      · simp only [Value.slice.injEq] at hv; omega
    · rcases h.2 with ⟨h0, _⟩ | ⟨g', cap', cur, hv, _, _, _, hm, _⟩
      · cases h0
      · simp only [Value.slice.injEq] at hv; unfold maxLen at hm; omega
    · exact h.cells rfl k _ (by simp [intCells, hk])
set_option maxRecDepth 100000 in
set_option maxHeartbeats 2000000 in
theorem fixed_any (w : World) (E : Nat → Addr) (h : Errs w E allErrs) (hT : DeBr w) (hg : 25 ≤ w.heap.size) :
    Calls Tryd.prog 11 #[] w fun e w' => e = .returned (.bool true) ∧ Below w.heap.size w w' := by
  have HE := hide h
  have HT := hide hT
  clear h hT
  go_enter Tryd.func11, Tryd.ntmps11
  go_wp2_with fail
  have hz : Ints (w.alloc (.cells #[.int .i64 7, .int .i64 2, .int .i64 2, .int .i64 3] 3)) (.slice (some ⟨w.heap.size, 0, none⟩) 4 4) [7, 2, 2, 3] :=
    .inr ⟨_, 4, rfl, by decide, by decide, fun k x hk => by
      rw [Addr.add_mid, Nat.zero_add, cell_at (heap_new rfl _)]
      match k, hk with
      | 0, hk | 1, hk | 2, hk | 3, hk => simp at hk; subst hk; rfl⟩
  have HB1 := hide ((Below.refl w.heap.size w).alloc (Nat.le_refl _) (.cells #[.int .i64 7, .int .i64 2, .int .i64 2, .int .i64 3] 3))
  have HER := hide (show ErrAt w 0 (E 0) from HE.out.cell 0 (by decide))
  refine (of_any _ 10 _ 4 [7, 2, 2, 3] hz (by decide) (E 0) (err_below HER.out HB1.out (by omega)) (by simp)).mono ?_
  rintro e w2 ⟨hof, hb2⟩
  have HB2 := hide (HB1.out.trans (hb2.mono (by simp)))
  have hs2 := HB2.out.size
  clear hb2 hz HB1
  rcases hof with ⟨N, S, g, cap, hN, _, _, rfl, _, _, hs⟩ | ⟨hno, _⟩
  · have hN10 : N = 10 := by omega
    subst hN10
    have HS := hide hs
    have HER2 := hide (err_below HER.out HB2.out (by omega))
    clear hs hN
    go_wp2_with fail
    refine (count_any w2 HS.out).mono ?_
    rintro e w3 ⟨rfl, rfl⟩
    rw [fx_cnt]
    go_wp2_with fail
    refine (new_bad w2 1048577 (by omega) (E 0) HER2.out).mono ?_
    rintro e w3 ⟨rfl, q3, rfl⟩
    have HS4 := hide (HS.out.keep (below_drewN (Below.refl _ w2) q3))
    have HB4 := hide (below_drewN HB2.out q3)
    generalize w2.drewN q3 = w4 at *
    have hs4 := HB4.out.size
    have HE4 := hide (HE.out.below HB4.out (Nat.le_refl _) (ids_lt hg))
    have HT4 := hide (debr_below HT.out HB4.out (by omega))
    clear HS HB2 HER2 HT HE
    go_wp2_with fail
    refine (num_range w4 E HE4.out).mono ?_
    rintro e w5 ⟨rfl, rfl⟩
    go_wp2_with fail
    refine (encode_any w4 HS4.out).mono ?_
    rintro e w5 ⟨q, _, rfl, hh, hb5⟩
    rw [fx_enc] at hh
    rw [fx_enc]
    have hb5' := hb5.mono hs4
    have HS5 := hide (HS4.out.keep hb5)
    have HT5 := hide (debr_below HT4.out hb5 (by omega))
    have HB5 := hide (HB4.out.trans hb5')
    have hs5 := HB5.out.size
    have hX : Src (w5.alloc (.cells (u8s [10, 4, 140, 0]).toArray 5)) (.slice (some ⟨w5.heap.size, 0, none⟩) 4 4) [10, 4, 140, 0] := src_block (heap_new rfl _) (by decide) (by decide)
    have hY : Src (w5.alloc (.cells (u8s [10, 4, 140, 0]).toArray 5)) (.slice (some ⟨q, 0, none⟩) 4 4) [10, 4, 140, 0] := src_block (heap_old hh _) (by decide) (by decide)
    have HBE := hide (bytes_equal _ _ _ _ _ hY hX)
    clear hh hb5 hb5' hX hY HS4 HT4
    go_wp2_with fail
    refine HBE.out.mono ?_
    rintro e w6 ⟨rfl, rfl⟩
    rw [show decide True = true from rfl]
    have HB6 := hide (HB5.out.alloc hs5 (.cells (u8s [10, 4, 140, 0]).toArray 5))
    have HS6 := hide (HS5.out.keep ((Below.refl w5.heap.size w5).alloc (Nat.le_refl _) (.cells (u8s [10, 4, 140, 0]).toArray 5)))
    have HT6 := hide (debr_below HT5.out ((Below.refl w5.heap.size w5).alloc (Nat.le_refl _) (.cells (u8s [10, 4, 140, 0]).toArray 5)) (by omega))
    have hq6 : 15 < (w5.alloc (.cells (u8s [10, 4, 140, 0]).toArray 5)).heap.size := by rw [World.size_alloc]; omega
    have HM := hide (members_any _ HS6.out HT6.out hq6)
    rw [fx_cnt, fx_mem] at HM
    go_wp2_with fail
    refine HM.out.mono ?_
    rintro e w7 ⟨v7, rfl, ho7, hb7⟩
    have HI7 := hide (ints_own ho7)
    have HB7 := hide (HB6.out.trans (hb7.mono HB6.out.size))
    have hs7 := HB7.out.size
    obtain ⟨ao7, c7, rfl⟩ := row_shape ho7
    have hI8 : Ints (w7.alloc (.cells (intCells [2, 3, 7]).toArray 3)) (.slice (some ⟨w7.heap.size, 0, none⟩) 3 3) [2, 3, 7] :=
      .inr ⟨_, 3, rfl, by decide, by decide, fun k x hk => by
        rw [Addr.add_mid, Nat.zero_add, cell_at (heap_new rfl _)]
        match k, hk with
        | 0, hk | 1, hk | 2, hk => simp at hk; subst hk; rfl⟩
    have HI9 := hide (ints_keep HI7.out ((Below.refl w7.heap.size w7).alloc (Nat.le_refl _) (.cells (intCells [2, 3, 7]).toArray 3)))
    have HQ := hide (ints_equal _ ao7 (some ⟨w7.heap.size, 0, none⟩) c7 3 [2, 3, 7] [2, 3, 7] HI9.out hI8 (by decide))
    clear ho7 hb7 hI8 HI7 HI9 HBE HM
    go_wp2_with fail
    refine HQ.out.mono ?_
    rintro e w8 ⟨rfl, q8, rfl⟩
    have HB8 := hide (below_drewN (HB7.out.alloc hs7 (.cells (intCells [2, 3, 7]).toArray 3)) q8)
    go_wp2_with fail
    go_ret
    exact ⟨rfl, HB8.out⟩
  · exact absurd ⟨by decide, by decide, by decide⟩ hno
end Go.Proofs.YtmkbbekeimnajaaDoor

/-! Eq: Equal, alike -/
namespace Go.Proofs.YtmkbbekeimnajaaDoor
open Go.RowKit Ds
theorem word_eq_of {m1 m2 : Nat → Bool} {n : Nat} (o1 : ∀ i, n ≤ i → m1 i = false) (o2 : ∀ i, n ≤ i → m2 i = false) (h : ∀ j, j < nw n → word m1 j = word m2 j) : m1 = m2 := by
  funext i
  by_cases hi : i < n
  · rw [← word_has m1 i, ← word_has m2 i, h (i / 64) (by unfold nw; omega)]
  · rw [o1 i (by omega), o2 i (by omega)]
theorem first_diff (P : Nat → Prop) (k : Nat) (h : ¬ ∀ j, j < k → P j) : ∃ d, d < k ∧ ¬ P d ∧ ∀ i, i < d → P i := by
  induction k with
  | zero => exact absurd (fun j hj => absurd hj (by omega)) h
  | succ k ih =>
    by_cases h1 : ∀ j, j < k → P j
    · refine ⟨k, by omega, fun hk => h fun j hj => ?_, h1⟩
      by_cases e : j = k
      · rw [e]; exact hk
      · exact h1 j (by omega)
    · obtain ⟨d, a, b, c⟩ := ih h1
      exact ⟨d, by omega, b, c⟩
set_option maxRecDepth 100000 in
set_option maxHeartbeats 2000000 in
theorem equal_same (w : World) {S1 g1 cap1 S2 g2 cap2 n : Nat} {m : Nat → Bool} (h1 : SetAt w S1 g1 cap1 n m) (h2 : SetAt w S2 g2 cap2 n m) :
    Calls Tryd.prog 35 #[.pointer (some ⟨S1, 0, none⟩), .pointer (some ⟨S2, 0, none⟩)] w fun e w' => e = .returned (.bool true) ∧ ∃ q, w' = w.drewN q := by
  obtain ⟨a0, a1, a2⟩ := cells3 h1.hd
  obtain ⟨b0, b1, b2⟩ := cells3 h2.hd
  have hsm := h1.small
  have HS1 := hide h1
  have HS2 := hide h2
  clear h1 h2
  go_enter Tryd.func35, Tryd.ntmps35
  go_wp2_with fail
  go_quiet (fail)
  have HT1 := hide (HS1.out.keep (below_drewN (Below.refl _ _) nq))
  have HT2 := hide (HS2.out.keep (below_drewN (Below.refl _ _) nq))
  have HW := hide (show ∃ q, w.drewN nq = w.drewN q from ⟨_, rfl⟩)
  generalize w.drewN nq = W at HT1 HT2 HW
  clear a0 a1 a2 b0 b1 b2
  obtain ⟨a0, a1, a2⟩ := cells3 HT1.out.hd
  obtain ⟨b0, b1, b2⟩ := cells3 HT2.out.hd
  have hcap1 := HT1.out.cap
  have hcap2 := HT2.out.cap
  obtain ⟨k, hk⟩ : ∃ k, nw n = k := ⟨_, rfl⟩
  have hkl : k ≤ 16384 := by rw [← hk]; unfold nw; omega
  rw [hk] at a2 b2 hcap1 hcap2
  have HK := hide hk
  clear hk
  go_wp2_with fail
  go_loop [36] (fun i => ∃ j : Nat, i = .int .i64 (j : Nat) ∧ j ≤ k) (fun i => k - (intOf i).toNat)
  case atStart => exact ⟨0, rfl, Nat.zero_le _⟩
  case round =>
    obtain ⟨j, rfl, hj⟩ := hrel
    by_cases hlt : j < k
    · have hji : (j : Int) < (k : Int) := by omega
      have aw := HT1.out.cell (show j < nw n by rw [HK.out]; exact hlt)
      have bw := HT2.out.cell (show j < nw n by rw [HK.out]; exact hlt)
      go_wp2_with fail
      exact ⟨⟨j + 1, vi (by omega), by omega⟩, by simp only [intOf]; omega⟩
    · obtain rfl : k = j := by omega
      go_wp2_with fail
      go_ret
      exact ⟨rfl, HW.out⟩
set_option maxRecDepth 100000 in
set_option maxHeartbeats 2000000 in
theorem equal_no (w : World) {S1 g1 cap1 S2 g2 cap2 n1 n2 : Nat} {m1 m2 : Nat → Bool} (h1 : SetAt w S1 g1 cap1 n1 m1) (h2 : SetAt w S2 g2 cap2 n2 m2) (hne : n1 = n2 → m1 ≠ m2) :
    Calls Tryd.prog 35 #[.pointer (some ⟨S1, 0, none⟩), .pointer (some ⟨S2, 0, none⟩)] w fun e w' => e = .returned (.bool false) ∧ ∃ q, w' = w.drewN q := by
  obtain ⟨a0, a1, a2⟩ := cells3 h1.hd
  obtain ⟨b0, b1, b2⟩ := cells3 h2.hd
  have hsm := h1.small
  have HS1 := hide h1
  have HS2 := hide h2
  clear h1 h2
  by_cases hn : n1 = n2
  · subst hn
    have HNE := hide (hne rfl)
    clear hne
    by_cases hc : cnt m1 n1 = cnt m2 n1
    · rw [← hc] at b1
      have hd := first_diff (fun j => word m1 j = word m2 j) (nw n1) (fun h => HNE.out (word_eq_of HS1.out.off HS2.out.off h))
      obtain ⟨d, hdk, hdne, hdlt⟩ := hd
      have HDL := hide hdlt
      have HDN := hide hdne
      clear hc hdlt hdne
      go_enter Tryd.func35, Tryd.ntmps35
      go_wp2_with fail
      go_quiet (fail)
      have HT1 := hide (HS1.out.keep (below_drewN (Below.refl _ _) nq))
      have HT2 := hide (HS2.out.keep (below_drewN (Below.refl _ _) nq))
      have HW := hide (show ∃ q, w.drewN nq = w.drewN q from ⟨_, rfl⟩)
      generalize w.drewN nq = W at HT1 HT2 HW
      clear a0 a1 a2 b0 b1 b2
      obtain ⟨a0, a1, a2⟩ := cells3 HT1.out.hd
      obtain ⟨b0, b1, b2⟩ := cells3 HT2.out.hd
      have hcap1 := HT1.out.cap
      have hcap2 := HT2.out.cap
      obtain ⟨k, hk⟩ : ∃ k, nw n1 = k := ⟨_, rfl⟩
      have hkl : k ≤ 16384 := by rw [← hk]; unfold nw; omega
      rw [hk] at a2 b2 hcap1 hcap2 hdk
      have HK := hide hk
      clear hk
      go_wp2_with fail
      go_loop [36] (fun i => ∃ j : Nat, i = .int .i64 (j : Nat) ∧ j ≤ d) (fun i => k - (intOf i).toNat)
      case atStart => exact ⟨0, rfl, Nat.zero_le _⟩
      case round =>
        obtain ⟨j, rfl, hj⟩ := hrel
        have hlt : j < k := by omega
        have hji : (j : Int) < (k : Int) := by omega
        have aw := HT1.out.cell (show j < nw n1 by rw [HK.out]; exact hlt)
        have bw := HT2.out.cell (show j < nw n1 by rw [HK.out]; exact hlt)
        by_cases hjd : j < d
        · rw [← HDL.out j hjd] at bw
          go_wp2_with fail
          exact ⟨⟨j + 1, vi (by omega), by omega⟩, by simp only [intOf]; omega⟩
        · obtain rfl : d = j := by omega
          have hx := HDN.out
          have hxi : ((word m1 d : Int) == (word m2 d : Int)) = false := by simp; omega
          have hxn : ¬ word m1 d = word m2 d := hx
          clear hx
          go_wp2_with fail
          go_ret
          exact ⟨rfl, HW.out⟩
    · have hci : ((cnt m2 n1 : Int) == (cnt m1 n1 : Int)) = false := by simp; omega
      have hcn : ¬ cnt m2 n1 = cnt m1 n1 := by omega
      clear hc
      go_enter Tryd.func35, Tryd.ntmps35
      go_wp2_with fail
      go_quiet (fail)
      go_wp2_with fail
      go_ret
      exact ⟨rfl, _, rfl⟩
  · have hci : ((n2 : Int) == (n1 : Int)) = false := by simp; omega
    have hci2 : ((n2 : Int) != (n1 : Int)) = true := by simp; omega
    have hcn : (n2 == n1) = false := by simp; omega
    have hcn2 : (n2 != n1) = true := by simp; omega
    clear hn hne
    go_enter Tryd.func35, Tryd.ntmps35
    go_wp2_with fail
    go_quiet (fail)
    go_wp2_with fail
    go_ret
    exact ⟨rfl, _, rfl⟩
/-- the bytes of a set -/
def encS (n : Nat) (m : Nat → Bool) : List Nat := Uv.uv n ++ body n m (nb n)
theorem encS_lt {n : Nat} {m : Nat → Bool} (hn : n ≤ 1048576) : ∀ x ∈ encS n m, x < 256 := fun x hx => by
  rcases List.mem_append.1 hx with hx | hx
  · exact Uv.uv_lt n (by omega) x hx
  · exact body_lt n m (nb n) x hx
theorem encS_len {n : Nat} {m : Nat → Bool} (hn : n ≤ 1048576) : (encS n m).length ≤ 140000 := by
  have h1 := Uv.uv_len n
  have h2 := body_len n m (nb n)
  have h3 : nb n ≤ 4096 := by unfold nb; omega
  unfold encS
  rw [List.length_append]
  omega
theorem encode_set (w : World) {S g cap n : Nat} {m : Nat → Bool} (h : SetAt w S g cap n m) :
    Calls Tryd.prog 24 #[.pointer (some ⟨S, 0, none⟩)] w fun e w' => ∃ q, w.heap.size ≤ q ∧ e = .returned (.slice (some ⟨q, 0, none⟩) (encS n m).length (encS n m).length) ∧
      w'.heap[q]? = some (.cells (u8s (encS n m)).toArray 5 (0, 0)) ∧ Below w.heap.size w w' := encode_any w h
theorem src_encS {w : World} {q n : Nat} {m : Nat → Bool} (hn : n ≤ 1048576) (h : w.heap[q]? = some (.cells (u8s (encS n m)).toArray 5 (0, 0))) : Src w (.slice (some ⟨q, 0, none⟩) (encS n m).length (encS n m).length) (encS n m) :=
  src_block h (encS_lt hn) (by have := encS_len (m := m) hn; omega)
set_option maxRecDepth 100000 in
set_option maxHeartbeats 2000000 in
theorem alike_same (w : World) {S1 g1 cap1 S2 g2 cap2 n : Nat} {m : Nat → Bool} (h1 : SetAt w S1 g1 cap1 n m) (h2 : SetAt w S2 g2 cap2 n m) :
    Calls Tryd.prog 27 #[.pointer (some ⟨S1, 0, none⟩), .pointer (some ⟨S2, 0, none⟩)] w fun e w' => e = .returned (.bool true) ∧ Below w.heap.size w w' := by
  have hsm := h1.small
  have HS1 := hide h1
  have HS2 := hide h2
  clear h1 h2
  go_enter Tryd.func27, Tryd.ntmps27
  go_wp2_with fail
  refine (equal_same w HS1.out HS2.out).mono ?_
  rintro e wz ⟨rfl, q1, rfl⟩
  have HA1 := hide (HS1.out.keep (below_drewN (Below.refl _ _) q1))
  have HA2 := hide (HS2.out.keep (below_drewN (Below.refl _ _) q1))
  have HB1 := hide (below_drewN (Below.refl w.heap.size w) q1)
  clear HS1 HS2
  go_wp2_with fail
  refine (equal_same _ HA2.out HA1.out).mono ?_
  rintro e wz ⟨rfl, q2, rfl⟩
  have HC1 := hide (HA1.out.keep (below_drewN (Below.refl _ _) q2))
  have HC2 := hide (HA2.out.keep (below_drewN (Below.refl _ _) q2))
  have HB2 := hide (below_drewN HB1.out q2)
  clear HA1 HA2 HB1
  generalize (w.drewN q1).drewN q2 = w2 at *
  go_wp2_with fail
  refine (encode_set w2 HC1.out).mono ?_
  rintro e w3 ⟨p3, hp3, rfl, hh3, hb3⟩
  have HH3 := hide hh3
  have HB3 := hide (HB2.out.trans (hb3.mono HB2.out.size))
  have HD2 := hide (HC2.out.keep hb3)
  clear hh3 hb3 HC1 HC2
  go_wp2_with fail
  refine (encode_set w3 HD2.out).mono ?_
  rintro e w4 ⟨p4, hp4, rfl, hh4, hb4⟩
  have HSA := hide (src_keep (src_encS hsm HH3.out) hb4)
  have HSB := hide (src_encS hsm hh4)
  have HB4 := hide (HB3.out.trans (hb4.mono HB3.out.size))
  clear hh4 hb4 HD2 HH3
  have HQ := hide (bytes_equal w4 _ _ _ _ HSA.out HSB.out)
  go_wp2_with fail
  refine HQ.out.mono ?_
  rintro e w5 ⟨rfl, rfl⟩
  go_wp2_with fail
  go_ret
  exact ⟨by simp, HB4.out⟩
end Go.Proofs.YtmkbbekeimnajaaDoor

/-! Ix: slices.Contains -/
namespace Go.Proofs.YtmkbbekeimnajaaDoor
open Go.RowKit Ds
set_option maxRecDepth 100000 in
set_option maxHeartbeats 1000000 in
theorem index_in (w : World) (ao : Option Addr) (n cap : Nat) (zs : List Int) (z : Int) (hI : Ints w (.slice ao n cap) zs) (hn : zs.length = n) (hl : n ≤ 1152921504606846976) (hz : z ∈ zs) :
    Calls Tryd.prog 68 #[.slice ao n cap, .int .i64 z] w fun e w' => (∃ k : Nat, e = .returned (.int .i64 (k : Nat))) ∧ w = w' := by
  have HI := hide hI
  have HN := hide hn
  obtain ⟨d, hd, hbad, hlow⟩ := first_diff (fun i => zs[i]? ≠ some z) zs.length (fun h => by
    obtain ⟨i, hi⟩ := List.mem_iff_getElem?.1 hz
    exact h i (get_lt' hi) hi)
  rw [hn] at hd
  have hdz : zs[d]? = some z := by
    cases h : zs[d]? with
    | none => exact (hbad (by rw [h]; simp)).elim
    | some y => by_cases e : y = z
                · rw [e]
                · exact (hbad (by rw [h]; simp; exact e)).elim
  have HD := hide hdz
  have HL := hide hlow
  clear hI hn hz hbad hlow hdz
  go_enter Tryd.func68, Tryd.ntmps68
  go_wp2_with fail
  go_loop [8] (fun a => ∃ i : Nat, a = .int .i64 (i : Nat) ∧ i ≤ d) (fun a => n - (intOf a).toNat)
  case atStart => exact ⟨0, rfl, Nat.zero_le _⟩
  case round =>
    obtain ⟨i, rfl, hi⟩ := hrel
    have hlt : i < n := by omega
    obtain ⟨x, hx⟩ : ∃ x, zs[i]? = some x := ⟨_, List.getElem?_eq_getElem (by rw [HN.out]; exact hlt)⟩
    obtain ⟨ad, rfl, hc⟩ := ints_get HI.out hx
    have hii : (i : Int) < (n : Int) := by omega
    by_cases hid : i < d
    · have hxz : (z == x) = false := by
        have := HL.out i hid
        rw [hx] at this
        simp only [ne_eq, Option.some.injEq] at this
        simp only [beq_eq_false_iff_ne, ne_eq]
        exact fun e => this e.symm
      clear hx
      go_wp2_with fail
      exact ⟨⟨i + 1, vi (by omega), by omega⟩, by simp only [intOf]; omega⟩
    · obtain rfl : d = i := by omega
      obtain rfl : x = z := by have := HD.out; rw [hx] at this; exact Option.some.inj this
      clear hx
      go_wp2_with fail
      go_ret
      exact ⟨⟨d, rfl⟩, rfl⟩
set_option maxRecDepth 100000 in
set_option maxHeartbeats 1000000 in
theorem index_out (w : World) (ao : Option Addr) (n cap : Nat) (zs : List Int) (z : Int) (hI : Ints w (.slice ao n cap) zs) (hn : zs.length = n) (hl : n ≤ 1152921504606846976) (hz : z ∉ zs) :
    Calls Tryd.prog 68 #[.slice ao n cap, .int .i64 z] w fun e w' => e = .returned (.int .i64 (-1)) ∧ w = w' := by
  have HI := hide hI
  have HN := hide hn
  have HZ := hide hz
  clear hI hn hz
  go_enter Tryd.func68, Tryd.ntmps68
  go_wp2_with fail
  go_loop [8] (fun a => ∃ i : Nat, a = .int .i64 (i : Nat) ∧ i ≤ n) (fun a => n - (intOf a).toNat)
  case atStart => exact ⟨0, rfl, Nat.zero_le _⟩
  case round =>
    obtain ⟨i, rfl, hi⟩ := hrel
    by_cases hlt : i < n
    · obtain ⟨x, hx⟩ : ∃ x, zs[i]? = some x := ⟨_, List.getElem?_eq_getElem (by rw [HN.out]; exact hlt)⟩
      obtain ⟨ad, rfl, hc⟩ := ints_get HI.out hx
      have hii : (i : Int) < (n : Int) := by omega
      have hxz : (z == x) = false := by
        simp only [beq_eq_false_iff_ne, ne_eq]
        rintro rfl
        exact HZ.out (List.mem_of_getElem? hx)
      clear hx
      go_wp2_with fail
      exact ⟨⟨i + 1, vi (by omega), by omega⟩, by simp only [intOf]; omega⟩
    · obtain rfl : n = i := by omega
      go_wp2_with fail
      go_ret
      exact ⟨rfl, rfl⟩
set_option maxRecDepth 100000 in
theorem contains_any (w : World) (ao : Option Addr) (n cap : Nat) (zs : List Int) (z : Int) (hI : Ints w (.slice ao n cap) zs) (hn : zs.length = n) (hl : n ≤ 1152921504606846976) :
    Calls Tryd.prog 37 #[.slice ao n cap, .int .i64 z] w fun e w' => e = .returned (.bool (decide (z ∈ zs))) ∧ w = w' := by
  by_cases hz : z ∈ zs
  · rw [decide_eq_true hz]
    have HI := hide (index_in w ao n cap zs z hI hn hl hz)
    clear hI hn hz
    go_enter Tryd.func37, Tryd.ntmps37
    go_wp2_with fail
    refine HI.out.mono ?_
    rintro e wz ⟨⟨k, rfl⟩, rfl⟩
    go_wp2_with fail
    go_ret
    exact ⟨rfl, rfl⟩
  · rw [decide_eq_false hz]
    have HI := hide (index_out w ao n cap zs z hI hn hl hz)
    clear hI hn hz
    go_enter Tryd.func37, Tryd.ntmps37
    go_wp2_with fail
    refine HI.out.mono ?_
    rintro e wz ⟨rfl, rfl⟩
    go_wp2_with fail
    go_ret
    exact ⟨rfl, rfl⟩
end Go.Proofs.YtmkbbekeimnajaaDoor

/-! Nm: the plain law of a number in bytes -/
namespace Go.Proofs.YtmkbbekeimnajaaDoor.Nm

/-- the number that bytes make -/
def val : List Nat → Nat
  | [] => 0
  | x :: r => x % 128 + 128 * val r
/-- from index i on, f bytes at most: how many bytes it has, the error (1 short, 2 varint) -/
def num : Nat → Nat → List Nat → Nat × Nat
  | 0, _, _ => (0, 1)
  | f + 1, i, bs =>
    match bs[i]? with
    | none => (0, 1)
    | some x => if i = 9 ∧ 1 < x then (0, 2) else if 128 ≤ x then num f (i + 1) bs else if x = 0 ∧ 0 < i then (0, 2) else (i + 1, 0)

theorem val_app (xs : List Nat) (x : Nat) : val (xs ++ [x]) = val xs + x % 128 * 128 ^ xs.length := by
  induction xs with
  | nil => simp [val]
  | cons y r ih =>
    simp only [List.cons_append, val, ih, List.length_cons, Nat.pow_succ]
    rw [Nat.mul_add, Nat.add_assoc]
    congr 2
    rw [Nat.mul_comm 128, Nat.mul_assoc]
theorem val_lt (xs : List Nat) : val xs < 128 ^ xs.length := by
  induction xs with
  | nil => simp [val]
  | cons y r ih =>
    simp only [val, List.length_cons, Nat.pow_succ]
    have := Nat.mod_lt y (show 0 < 128 by decide)
    have : val r + 1 ≤ 128 ^ r.length := ih
    omega
theorem val_take {bs : List Nat} {i x : Nat} (h : bs[i]? = some x) : val (bs.take (i + 1)) = val (bs.take i) + x % 128 * 128 ^ i := by
  obtain ⟨hl, _⟩ := List.getElem?_eq_some_iff.1 h
  rw [List.take_add_one, h, Option.toList_some, val_app, List.length_take, Nat.min_eq_left (by omega)]
theorem val_take_lt (bs : List Nat) (i : Nat) : val (bs.take i) < 128 ^ i := by
  refine Nat.lt_of_lt_of_le (val_lt _) (Nat.pow_le_pow_right (by decide) ?_)
  rw [List.length_take]
  omega
theorem num_take {f i : Nat} (bs : List Nat) (h : i + f ≤ 10) : num f i (bs.take 10) = num f i bs := by
  induction f generalizing i with
  | zero => rfl
  | succ f ih =>
    rw [num, num, List.getElem?_take, if_pos (by omega)]
    cases hb : bs[i]? with
    | none => rfl
    | some x => simp only [ih (i := i + 1) (by omega)]
/-- what a good answer tells -/
theorem num_ok {f i n : Nat} {bs : List Nat} (hf : i + f ≤ 10) (h : num f i bs = (n, 0)) : i < n ∧ n ≤ 10 ∧ n ≤ bs.length ∧ ∃ x, bs[n - 1]? = some x ∧ x < 128 ∧ (n = 10 → x ≤ 1) ∧ (1 < n → 0 < x) := by
  induction f generalizing i with
  | zero => simp [num] at h
  | succ f ih =>
    rw [num] at h
    cases hb : bs[i]? with
    | none => rw [hb] at h; simp at h
    | some x =>
      obtain ⟨hl, _⟩ := List.getElem?_eq_some_iff.1 hb
      rw [hb] at h
      simp only at h
      split at h
      · simp at h
      · split at h
        · have := ih (by omega) h
          exact ⟨by omega, this.2⟩
        · split at h
          · simp at h
          · simp only [Prod.mk.injEq, and_true] at h
            subst h
            refine ⟨by omega, by omega, by omega, x, by simpa using hb, by omega, by omega, by omega⟩
theorem num_err {f i : Nat} (bs : List Nat) : (num f i bs).2 = 0 ∨ num f i bs = (0, 1) ∨ num f i bs = (0, 2) := by
  induction f generalizing i with
  | zero => exact .inr (.inl rfl)
  | succ f ih =>
    rw [num]
    cases bs[i]? with
    | none => exact .inr (.inl rfl)
    | some x =>
      simp only
      split
      · exact .inr (.inr rfl)
      · split
        · exact ih
        · split
          · exact .inr (.inr rfl)
          · exact .inl rfl
theorem val_ok {n : Nat} {bs : List Nat} (h : num 10 0 bs = (n, 0)) : val (bs.take n) < 18446744073709551616 := by
  obtain ⟨h1, h2, h3, x, hx, hx128, hx10, _⟩ := num_ok (by omega) h
  obtain ⟨m, rfl⟩ : ∃ m, n = m + 1 := ⟨n - 1, by omega⟩
  simp only [Nat.add_sub_cancel] at hx
  rw [val_take hx]
  have hv := val_take_lt bs m
  by_cases hm : m = 9
  · subst hm
    have := hx10 rfl
    have : x % 128 = x := by omega
    rw [this]
    have e : (128 : Nat) ^ 9 = 9223372036854775808 := by decide
    rw [e] at *
    have : x * 9223372036854775808 ≤ 1 * 9223372036854775808 := Nat.mul_le_mul_right _ (by omega)
    omega
  · have hp : 128 ^ (m + 1) ≤ 128 ^ 9 := Nat.pow_le_pow_right (by decide) (by omega)
    have e : (128 : Nat) ^ 9 = 9223372036854775808 := by decide
    have hs : 128 ^ (m + 1) = 128 ^ m * 128 := Nat.pow_succ ..
    have hx2 : x % 128 * 128 ^ m ≤ 127 * 128 ^ m := Nat.mul_le_mul_right _ (by omega)
    rw [e] at hp
    omega
theorem val_drop_le (l : List Nat) (j : Nat) : val (l.drop j) ≤ val l := by
  induction l generalizing j with
  | nil => simp
  | cons x r ih =>
    cases j with
    | zero => simp
    | succ j =>
      have := ih j
      rw [List.drop_succ_cons, val]
      omega
theorem val_drop {l : List Nat} {j x : Nat} (h : l[j]? = some x) : val (l.drop j) = x % 128 + 128 * val (l.drop (j + 1)) := by
  rw [List.drop_eq_getElem?_toList_append, h]
  rfl
end Go.Proofs.YtmkbbekeimnajaaDoor.Nm

/-! Rn: a reader: Uvarint -/
namespace Go.Proofs.YtmkbbekeimnajaaDoor
open Go.RowKit
/-- what Uvarint answers -/
def NumOut (E : Nat → Addr) (bs : List Nat) (e : Ending) : Prop :=
  ((Nm.num 10 0 bs).2 = 0 ∧ e = .returned (.tuple #[.int .u64 (Nm.val (bs.take (Nm.num 10 0 bs).1) : Nat), .nilIface])) ∨
  ((Nm.num 10 0 bs).2 = 1 ∧ e = .returned (.tuple #[.int .u64 0, .iface 153 (.pointer (some (E 2)))])) ∨
  ((Nm.num 10 0 bs).2 = 2 ∧ e = .returned (.tuple #[.int .u64 0, .iface 153 (.pointer (some (E 3)))]))
theorem rd_drew {w : World} {p a n : Nat} {bv : Value} (h : RdAt w p a bv n) (q : Nat) : RdAt (w.drewN q) p a bv n := h
theorem src_drew {w : World} {v : Value} {bs : List Nat} (h : Src w v bs) (q : Nat) : Src (w.drewN q) v bs := src_keep h (below_drewN (Below.refl _ _) q)
theorem or_val (i x : Nat) (bs : List Nat) (hx : bs[i]? = some x) (hi : i ≤ 9) (h9 : i = 9 → x ≤ 1) :
    bits .or .u64 ((Nm.val (bs.take i) : Nat) : Int) (IntKind.u64.wrap ((x : Int) % 128 * 2 ^ (7 * i))) = ((Nm.val (bs.take (i + 1)) : Nat) : Int) := by
  have hv := Nm.val_take_lt bs i
  have hp : (128 : Nat) ^ i = 2 ^ (7 * i) := by rw [show (128 : Nat) = 2 ^ 7 from rfl, ← Nat.pow_mul]
  have e9 : (2 : Nat) ^ 63 = 9223372036854775808 := by decide
  have hb : x % 128 * 2 ^ (7 * i) < 18446744073709551616 := by
    by_cases h : i = 9
    · have := h9 h
      subst h
      have : x % 128 * 2 ^ (7 * 9) ≤ 1 * 2 ^ 63 := Nat.mul_le_mul (by omega) (by decide)
      omega
    · have h2 : (2 : Nat) ^ (7 * i) ≤ 2 ^ 56 := Nat.pow_le_pow_right (by decide) (by omega)
      have h3 : x % 128 * 2 ^ (7 * i) ≤ 127 * 2 ^ 56 := Nat.mul_le_mul (by omega) h2
      have : (127 : Nat) * 2 ^ 56 < 18446744073709551616 := by decide
      omega
  have hvb : Nm.val (bs.take i) < 18446744073709551616 := by
    have h2 : (128 : Nat) ^ i ≤ 128 ^ 9 := Nat.pow_le_pow_right (by decide) hi
    have : (128 : Nat) ^ 9 < 18446744073709551616 := by decide
    omega
  have ec : ((x : Int) % 128 * 2 ^ (7 * i)) = ((x % 128 * 2 ^ (7 * i) : Nat) : Int) := by simp
  have ew : IntKind.u64.wrap ((x : Int) % 128 * 2 ^ (7 * i)) = ((x % 128 * 2 ^ (7 * i) : Nat) : Int) := by
    rw [ec, IntKind.wrap_u64]
    omega
  rw [ew, u64_or_nat _ _ hvb hb, Nm.val_take hx, hp]
  congr 1
  rw [hp] at hv
  have h := Nat.two_pow_add_eq_or_of_lt hv (x % 128)
  rw [Nat.mul_comm, Nat.add_comm] at h
  rw [h, Nat.or_comm, Nat.mul_comm]
theorem rd_set {w : World} {p a n : Nat} {bv : Value} (h : RdAt w p a bv n) (b : Nat) : RdAt (w.setCell ⟨p, 0, none⟩ (.int .i64 (b : Nat))) p b bv n := heap_set h _
theorem src_cell {w : World} {ao : Option Addr} {n cap i x : Nat} {bs : List Nat} (h : Src w (.slice ao n cap) bs) (hx : bs[i]? = some x) : ∃ ad, ao = some ad ∧ w.cell? (ad.add i) = some (.int .u8 x) := by
  rcases h with ⟨_, ⟨_, rfl⟩ | ⟨ad, c, hv, _, _, hc⟩⟩
  · simp at hx
  · simp only [Value.slice.injEq] at hv
    exact ⟨ad, hv.1, hc i x hx⟩
set_option maxRecDepth 100000 in
set_option maxHeartbeats 4000000 in
theorem reader_uvarint (w : World) (B p : Nat) (bv : Value) (bs : List Nat) (hB : B ≤ p) (hR : RdAt w p 0 bv bs.length) (hs : Src w bv bs) (hl : bs.length ≤ 140737488355328) (E : Nat → Addr) (hE1 : ErrAt w 2 (E 2)) (hE2 : ErrAt w 3 (E 3)) (hg : 3 < B) :
    Calls Tryd.prog 82 #[.pointer (some ⟨p, 0, none⟩)] w fun e w' => NumOut E bs e ∧ Below B w w' ∧ ((Nm.num 10 0 bs).2 = 0 → RdAt w' p (Nm.num 10 0 bs).1 bv bs.length) := by
  obtain ⟨ao, cap, rfl⟩ := src_form hs
  have HR := hide hR
  have HS := hide hs
  have HE1 := hide hE1
  have HE2 := hide hE2
  clear hR hs hE1 hE2
  go_enter Tryd.func82, Tryd.ntmps82
  go_wp2_with fail
  go_loopw [4, 5] (fun v c wr => ∃ i : Nat, i ≤ 9 ∧ c = .int .i64 i ∧ v = .int .u64 (Nm.val (bs.take i) : Nat) ∧ Nm.num 10 0 bs = Nm.num (10 - i) i bs ∧ RdAt wr p 0 (.slice ao bs.length cap) bs.length ∧ Src wr (.slice ao bs.length cap) bs ∧ Below B w wr) (fun _ c _ => 10 - (intOf c).toNat)
  case atStart => exact ⟨0, by omega, rfl, rfl, rfl, HR.out, HS.out, Below.refl _ _⟩
  case round =>
    obtain ⟨i, hi, rfl, rfl, hnum, hR, hS, hb⟩ := hrel
    have HN := hide hnum
    have HR' := hide hR
    have HS' := hide hS
    have HB' := hide hb
    clear hnum hR hS hb
    go_wp2_with fail
    refine (left_any wr p 0 bs.length _ HR'.out (by omega) (by omega)).mono ?_
    rintro e w1 ⟨rfl, q, rfl⟩
    have HR1 := hide (rd_drew HR'.out q)
    have HS1 := hide (src_drew HS'.out q)
    have HB1 := hide (below_drewN HB'.out q)
    clear HR' HS' HB'
    generalize wr.drewN q = w1 at HR1 HS1 HB1
    by_cases hlt : i < bs.length
    · obtain ⟨x, hx⟩ : ∃ x, bs[i]? = some x := ⟨_, List.getElem?_eq_getElem hlt⟩
      have HX := hide hx
      have hx256 := HS1.out.1 x (List.mem_of_getElem? hx)
      obtain ⟨h0, h1, h2⟩ := cells3 HR1.out
      clear hx
      obtain ⟨ad, rfl, hxc⟩ := src_cell HS1.out HX.out
      have hw0 : IntKind.i64.wrap ((0 : Int) + i) = (i : Int) := by rw [IntKind.wrap_i64]; omega
      go_wp2_with fail
      go_quiet (fail)
      have HR2 := hide (rd_drew HR1.out nq)
      have HS2 := hide (src_drew HS1.out nq)
      have HB2 := hide (below_drewN HB1.out nq)
      clear HR1 HS1 HB1 h0 h1 h2 hxc
      generalize w1.drewN nq = w2 at HR2 HS2 HB2
      obtain ⟨g0, g1, g2⟩ := cells3 HR2.out
      have HG0 := hide g0
      have e4 : bits .and .u8 (x : Int) 127 = ((x % 128 : Nat) : Int) := by
        have := u8_and_nat x 127 hx256 (by omega)
        rw [nat_mask7] at this
        exact this
      have e5 : IntKind.i64.wrap (7 * (i : Int)) = ((7 * i : Nat) : Int) := by rw [IntKind.wrap_i64]; omega
      have hstep : Nm.num (10 - i) i bs = if i = 9 ∧ 1 < x then (0, 2) else if 128 ≤ x then Nm.num (10 - (i + 1)) (i + 1) bs else if x = 0 ∧ 0 < i then (0, 2) else (i + 1, 0) := by
        rw [show 10 - i = (9 - i) + 1 by omega, Nm.num, HX.out, show 10 - (i + 1) = 9 - i by omega]
      have HST := hide (HN.out.trans hstep)
      clear hstep
      by_cases hA : i = 9 ∧ 1 < x
      · obtain ⟨rfl, hx1⟩ := hA
        have hr : Nm.num 10 0 bs = (0, 2) := by rw [HST.out, if_pos ⟨rfl, hx1⟩]
        have HRR := hide hr
        have hx2 : 1 < (x : Int) := by omega
        have hE := err_below HE2.out HB2.out hg
        unfold ErrAt at hE
        clear hr
        go_wp2_with fail
        go_quiet (fail)
        go_wp2
        go_ret2
        exact ⟨.inr (.inr ⟨by rw [HRR.out], rfl⟩), below_drewN HB2.out _, fun h => by rw [HRR.out] at h; simp at h⟩
      · by_cases hC : 128 ≤ x
        · have hi8 : i ≤ 8 := by omega
          have e1 : ((i : Int) == 9) = false := by simp; omega
          have e2 : 128 ≤ (x : Int) := by omega
          have e3 : ((i : Int) = 9) = False := by simp; omega
          have hr : Nm.num 10 0 bs = Nm.num (10 - (i + 1)) (i + 1) bs := by rw [HST.out, if_neg hA, if_pos hC]
          have HRR := hide hr
          have HV := hide (or_val i x bs HX.out (by omega) (fun h => by omega))
          clear hr
          go_wp2_with fail
          exact ⟨⟨i + 1, by omega, by simp, by rw [HV.out], HRR.out, HR2.out, HS2.out, HB2.out⟩, by simp [intOf]; omega⟩
        · by_cases hD : x = 0 ∧ 0 < i
          · obtain ⟨rfl, hi0⟩ := hD
            have hr : Nm.num 10 0 bs = (0, 2) := by rw [HST.out, if_neg hA, if_neg hC, if_pos ⟨rfl, hi0⟩]
            have HRR := hide hr
            have hi1 : 0 < (i : Int) := by omega
            have hE := err_below HE2.out HB2.out hg
            unfold ErrAt at hE
            clear hr
            go_wp2_with fail
            all_goals (go_quiet (fail); go_wp2; go_ret2; exact ⟨.inr (.inr ⟨by rw [HRR.out], rfl⟩), below_drewN HB2.out _, fun h => by rw [HRR.out] at h; simp at h⟩)
          · have hr : Nm.num 10 0 bs = (i + 1, 0) := by rw [HST.out, if_neg hA, if_neg hC, if_neg hD]
            have HRR := hide hr
            have hf := free_at HR2.out 0
            have hw1 : IntKind.i64.wrap ((i : Int) + 1) = ((i + 1 : Nat) : Int) := by rw [IntKind.wrap_i64]; omega
            have hx128 : x % 128 = x := by omega
            have hlx : x < 128 := by omega
            have HV := hide (or_val i x bs HX.out (by omega) (fun h => by omega))
            have HRD := hide (rd_set HR2.out (i + 1))
            have HBD := hide (below_set (i := 0) HB2.out hB (.int .i64 ((i + 1 : Nat) : Int)))
            clear hr
            by_cases h9 : i = 9
            · subst h9
              by_cases hx0 : x = 0
              · exact absurd ⟨hx0, by decide⟩ hD
              · have hx1 : x = 1 := by omega
                subst hx1
                go_wp2_with fail
                have hval : bits .or .u64 ((Nm.val (bs.take 9) : Nat) : Int) (IntKind.u64.wrap (IntKind.u64.wrap (bits .and .u8 1 127) * 9223372036854775808)) = ((Nm.val (bs.take 10) : Nat) : Int) := HV.out
                go_ret2
                refine ⟨.inl ⟨by rw [HRR.out], ?_⟩, HBD.out, fun _ => by rw [HRR.out]; exact HRD.out⟩
                rw [HRR.out, hval]
                rfl
            · have e1 : ((i : Int) == 9) = false := by simp; omega
              have e3 : ((i : Int) = 9) = False := by simp; omega
              by_cases hx0 : x = 0
              · have hi0 : i = 0 := by omega
                subst hi0
                subst hx0
                go_wp2_with fail
                have hval : bits .or .u64 ((Nm.val [] : Nat) : Int) (IntKind.u64.wrap (IntKind.u64.wrap (bits .and .u8 0 127))) = ((Nm.val (bs.take 1) : Nat) : Int) := HV.out
                go_ret2
                refine ⟨.inl ⟨by rw [HRR.out], ?_⟩, HBD.out, fun _ => by rw [HRR.out]; exact HRD.out⟩
                rw [HRR.out, hval]
                rfl
              · have ex : ((x : Int) == 0) = false := by simp; omega
                have ex2 : ((x : Int) = 0) = False := by simp; omega
                go_wp2_with fail
                have hm : (x : Int) % 128 = x := by omega
                have hval := HV.out
                rw [hm] at hval
                go_ret2
                refine ⟨.inl ⟨by rw [HRR.out], ?_⟩, HBD.out, fun _ => by rw [HRR.out]; exact HRD.out⟩
                rw [HRR.out, hval]
                rfl
    · have hge : (bs.length : Int) ≤ i := by omega
      have hr : Nm.num 10 0 bs = (0, 1) := by
        rw [HN.out, show 10 - i = (9 - i) + 1 by omega, Nm.num, List.getElem?_eq_none (by omega)]
      have HRR := hide hr
      have hE := err_below HE1.out HB1.out (by omega)
      unfold ErrAt at hE
      clear hr
      go_wp2_with fail
      go_quiet (fail)
      go_wp2
      go_ret2
      exact ⟨.inr (.inl ⟨by rw [HRR.out], rfl⟩), below_drewN HB1.out _, fun h => by rw [HRR.out] at h; simp at h⟩
end Go.Proofs.YtmkbbekeimnajaaDoor
