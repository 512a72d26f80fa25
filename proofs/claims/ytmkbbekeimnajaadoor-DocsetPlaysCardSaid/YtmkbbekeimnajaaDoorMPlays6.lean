/- texts of this proof, one behind the other: Re Rb -/
import Derived.Test.YtmkbbekeimnajaaDoorMPlays0
import Derived.Test.YtmkbbekeimnajaaDoorMPlays1
import Derived.Test.YtmkbbekeimnajaaDoorMPlays2
import Derived.Test.YtmkbbekeimnajaaDoorMPlays3
import Derived.Test.YtmkbbekeimnajaaDoorMPlays4
import Derived.Test.YtmkbbekeimnajaaDoorMPlays5
/-! Re: the document's sets in memory; their members; a number's bytes -/
namespace Go.Proofs.YtmkbbekeimnajaaDoor
open Go.RowKit Ds
def bvs (m : Nat → Bool) (n : Nat) : List Value := (List.range n).map fun i => .bool (m i)
theorem bvs_len (m : Nat → Bool) (n : Nat) : (bvs m n).length = n := by simp [bvs]
theorem bvs_get (m : Nat → Bool) {n i : Nat} (h : i < n) : (bvs m n)[i]? = some (.bool (m i)) := by simp [bvs, h]
theorem bvs_congr {m k : Nat → Bool} {n : Nat} (h : ∀ i, i < n → m i = k i) : bvs m n = bvs k n := List.map_congr_left fun i hi => by rw [h i (List.mem_range.1 hi)]
theorem bvs_set (m : Nat → Bool) (n i : Nat) (b : Bool) : (bvs m n).set i (.bool b) = bvs (put m i b) n := by
  apply List.ext_getElem?
  intro j
  rw [List.getElem?_set]
  by_cases hj : j < n
  · rw [bvs_get _ hj, bvs_get _ hj, bvs_len]
    unfold put
    by_cases e : i = j
    · subst e; simp [hj]
    · rw [if_neg e, if_neg (fun h => e h.symm)]
  · rw [List.getElem?_eq_none (by rw [bvs_len]; omega), List.getElem?_eq_none (by rw [bvs_len]; omega), bvs_len]
    split
    · rw [if_neg (by omega)]
    · rfl
/-- the truths of a set lie in block g -/
def ROwn (w : World) (g n : Nat) (m : Nat → Bool) : Prop := w.heap[g]? = some (.cells (bvs m n).toArray 4 (0, 0))
/-- the set's value -/
abbrev RefV (g n : Nat) : Value := .agg #[.int .i64 (n : Nat), .slice (some ⟨g, 0, none⟩) n n]
theorem ROwn.cell {w : World} {g n : Nat} {m : Nat → Bool} (h : ROwn w g n m) {i : Nat} (hi : i < n) : w.cell? ⟨g, i, none⟩ = some (.bool (m i)) := by
  rw [cell_at h]
  have := bvs_get m hi
  simpa using this
theorem ROwn.free {w : World} {g n : Nat} {m : Nat → Bool} (h : ROwn w g n m) (i : Nat) : w.frozen? ⟨g, i, none⟩ = false := free_at h i
theorem ROwn.keep {w w' : World} {g n : Nat} {m : Nat → Bool} (h : ROwn w g n m) (hb : Below w.heap.size w w') : ROwn w' g n m := (hb.block _ (heap_lt h)).trans h
theorem ROwn.put {w : World} {g n : Nat} {m : Nat → Bool} (h : ROwn w g n m) (i : Nat) (b : Bool) : ROwn (w.setCell ⟨g, i, none⟩ (.bool b)) g n (put m i b) := by
  unfold ROwn
  rw [heap_set h, List.setIfInBounds_toArray, bvs_set]
theorem made_bvs (n : Nat) : (madeCells #[Value.bool false] n).toList = bvs (fun _ => false) n := by
  apply List.ext_getElem?
  intro j
  by_cases hj : j < n
  · rw [bvs_get _ hj]; simp [madeCells, hj, Nat.mod_one]
  · rw [List.getElem?_eq_none (by simp [madeCells]; omega), List.getElem?_eq_none (by rw [bvs_len]; omega)]
theorem ROwn.congr {w : World} {g n : Nat} {m k : Nat → Bool} (h : ROwn w g n m) (hk : ∀ i, i < n → m i = k i) : ROwn w g n k := by
  unfold ROwn
  rw [← bvs_congr hk]
  exact h
set_option maxRecDepth 100000 in
set_option maxHeartbeats 2000000 in
theorem ref_members (w : World) {g n : Nat} {m : Nat → Bool} (h : ROwn w g n m) (hn : n ≤ 1048576) :
    Calls Tryd.prog 33 #[RefV g n] w fun e w' => ∃ v, e = .returned v ∧ w'.ownsRow w.heap.size 3 1 v (cnt m n) (intCells (mI m n)) ∧ Below w.heap.size w w' := by
  have HR := hide h
  obtain ⟨i0, hi, hz0, hz1, hz2⟩ := info_parts info3
  clear h
  go_enter Tryd.func33, Tryd.ntmps33
  go_upto_region 2 with (fail)
  have hA : (w.alloc (.cells #[.int .i64 (n : Nat), .slice (some ⟨g, 0, none⟩) n n] 54)).heap[w.heap.size]? = some (.cells #[.int .i64 (n : Nat), .slice (some ⟨g, 0, none⟩) n n] 54 (0, 0)) := heap_new rfl _
  have hb : Below w.heap.size w (w.alloc (.cells #[.int .i64 (n : Nat), .slice (some ⟨g, 0, none⟩) n n] 54)) := (Below.refl _ w).alloc (Nat.le_refl _) _
  have HA := hide hA
  have HB := hide hb
  have HR1 := hide (HR.out.keep hb)
  clear hA hb
  generalize w.alloc (.cells #[.int .i64 (n : Nat), .slice (some ⟨g, 0, none⟩) n n] 54) = w1 at *
  go_wp2_with fail
  go_loopw [3, 4] (fun v j wr => ∃ i : Nat, j = .int .i64 (i : Nat) ∧ i ≤ n ∧ wr.ownsRow w.heap.size 3 1 v (cnt m i) (intCells (mI m i)) ∧ Below w.heap.size w wr ∧ ROwn wr g n m ∧ wr.heap[w.heap.size]? = some (.cells #[.int .i64 (n : Nat), .slice (some ⟨g, 0, none⟩) n n] 54 (0, 0))) (fun _ j _ => n - (intOf j).toNat)
  case atStart => exact ⟨0, rfl, Nat.zero_le _, World.ownsRow_nil _ _ _ _, HB.out, HR1.out, HA.out⟩
  case round =>
    obtain ⟨i, rfl, hi2, hown, hb, hr, ha⟩ := hrel
    have HO := hide hown
    have HBr := hide hb
    have HRr := hide hr
    have HAr := hide ha
    have zr := hb.size
    obtain ⟨c0, c1⟩ := cells2 ha
    obtain ⟨vo, vc, rfl⟩ := row_shape hown
    clear hown hb hr ha HB HR1 HA
    by_cases hlt : i < n
    · have hii : (i : Int) < (n : Int) := by omega
      have hcc := HRr.out.cell hlt
      have hcl := cnt_le m i
      have hms := mem_succ m i
      have hcs := cnt_succ m i
      cases hmi : m i with
      | false =>
        rw [hmi] at hcc hms hcs
        have HE := hide (show mI m (i + 1) = mI m i from by unfold mI; rw [hms]; simp)
        have HC := hide (show cnt m (i + 1) = cnt m i from by rw [hcs]; simp)
        clear hms hcs hmi
        go_wp2_with fail
        refine ⟨⟨i + 1, vi (by omega), by omega, ?_, HBr.out, HRr.out, HAr.out⟩, by simp only [intOf]; omega⟩
        rw [HE.out, HC.out]
        exact HO.out
      | true =>
        rw [hmi] at hcc hms hcs
        have HE := hide (show mI m (i + 1) = mI m i ++ [(i : Int)] from by unfold mI; rw [hms]; simp)
        have HC := hide (show cnt m (i + 1) = cnt m i + 1 from by rw [hcs]; simp)
        obtain ⟨v6, w6, r1, r2, r3, r4⟩ := run_row (wr.alloc (.cells #[.int .i64 (i : Nat)] 3)) w.heap.size 22 22 3 i0 _ 1 8 Tryd.underlying22 hi hz0 hz1 hz2 rfl (by decide) (.slice vo (cnt m i) vc) (.slice (some ⟨wr.heap.size, 0, none⟩) 1 1) (cnt m i) 1 (intCells (mI m i)) (intCells [(i : Int)]) (World.ownsRow.alloc HO.out _) (srcc_one (heap_new rfl _)) (intCells_one _) (by simp only [maxLen]; omega) (by omega) (by rw [World.size_alloc]; omega)
        obtain ⟨vo6, vc6, rfl⟩ := row_shape r2
        have HR6 := hide r1
        have HB6 := hide (show Below w.heap.size w w6 from (HBr.out.alloc zr _).grown r3 (by rw [World.size_alloc]; omega) (fun j hj => (World.ownsRow.lt HO.out j hj).1))
        have hown' := World.ownsRow.alloc HO.out (.cells #[.int .i64 (i : Nat)] 3)
        have HRR6 := hide (show ROwn w6 g n m from keepTy_grown r3 (notTy_row hown' (by decide)) _ _ _ (heap_old HRr.out _))
        have HA6 := hide (keepTy_grown r3 (notTy_row hown' (t := 54) (by decide)) _ _ _ (heap_old HAr.out (.cells #[.int .i64 (i : Nat)] 3)))
        have HO6 := hide (show w6.ownsRow w.heap.size 3 1 (.slice vo6 (cnt m i + 1) vc6) (cnt m (i + 1)) (intCells (mI m (i + 1))) from by
          rw [HE.out, HC.out]; simpa [intCells] using r2)
        clear r1 r2 r3 r4 hms hcs hmi hown'
        go_wp2_with (at_builtin; refine wpList_run 22 _ w6 _ _ _ rfl (.tmp 16) (.tmp 18) rfl rfl rfl HR6.out ?_)
        go_wp2_with fail
        exact ⟨⟨i + 1, vi (by omega), by omega, HO6.out, HB6.out, HRR6.out, HA6.out⟩, by simp only [intOf]; omega⟩
    · obtain rfl : n = i := by omega
      go_wp2_with fail
      go_ret
      exact ⟨_, rfl, HO.out, HBr.out⟩
set_option maxRecDepth 100000 in
set_option maxHeartbeats 2000000 in
theorem ref_uv (w : World) (n : Nat) (hn : n ≤ 1048576) :
    Calls Tryd.prog 80 #[.int .i64 (n : Nat)] w fun e w' => ∃ v, e = .returned v ∧ Own w' w.heap.size v (Uv.uv n) ∧ Below w.heap.size w w' := by
  obtain ⟨i0, hi, hz0, hz1, hz2⟩ := info_parts info5
  go_enter Tryd.func80, Tryd.ntmps80
  go_wp2_with fail
  go_loopw [0, 3] (fun a v wr => ∃ (x f : Nat) (cur : List Nat), a = .int .i64 (x : Nat) ∧ x ≤ n ∧ Uv.uv n = cur ++ Uv.uvf f x ∧ x < 128 ^ (f + 1) ∧ cur.length ≤ 10 ∧ cur.length + f ≤ 9 ∧ Own wr w.heap.size v cur ∧ Below w.heap.size w wr) (fun a _ _ => (intOf a).toNat)
  case atStart => exact ⟨n, 9, [], rfl, Nat.le_refl _, rfl, by omega, by simp, by simp, World.ownsRow_nil _ _ _ _, Below.refl _ _⟩
  case round =>
    obtain ⟨x, f, cur, rfl, hxn, huv, hxf, hcl, hcf, hown, hb⟩ := hrel
    have HO := hide hown
    have HB := hide hb
    have HUV := hide huv
    have zr := hb.size
    obtain ⟨vo, vc, rfl⟩ := row_shape hown
    clear hown hb huv
    obtain ⟨l, hl⟩ : ∃ l, cur.length = l := ⟨_, rfl⟩
    unfold Own at HO
    rw [hl] at HO hcl hcf ⊢
    have HL := hide hl
    clear hl
    by_cases hx : 128 ≤ x
    · have hf0 : f ≠ 0 := by rintro rfl; simp at hxf; omega
      obtain ⟨f', rfl⟩ : ∃ f', f = f' + 1 := ⟨f - 1, by omega⟩
      have hug := Uv.uvf_great f' x hx
      have HU2 := hide (show Uv.uv n = (cur ++ [x % 128 + 128]) ++ Uv.uvf f' (x / 128) from by rw [HUV.out, hug]; simp)
      have hx2 : x / 128 < 128 ^ (f' + 1) := by rw [Nat.div_lt_iff_lt_mul (by decide)]; rw [Nat.pow_succ] at hxf; exact hxf
      obtain ⟨b, hbb⟩ : ∃ b, x % 128 + 128 = b := ⟨_, rfl⟩
      obtain ⟨q, hq⟩ : ∃ q, x / 128 = q := ⟨_, rfl⟩
      rw [hbb, hq] at HU2
      rw [hq] at hx2
      have hbi : (x : Int) % 128 + 128 = (b : Int) := by omega
      have hb256 : b < 256 := by omega
      have hwb : IntKind.u8.wrap (b : Int) = (b : Int) := by rw [IntKind.wrap_u8]; omega
      have hqi : (x : Int) / 128 = (q : Int) := by omega
      have hqx : q < x := by omega
      have hxi : (128 : Int) ≤ (x : Int) := by omega
      obtain ⟨v6, w6, r1, r2, r3, r4⟩ := run_row (wr.alloc (.cells #[.int .u8 (b : Nat)] 5)) w.heap.size 46 46 5 i0 _ 1 1 Tryd.underlying46 hi hz0 hz1 hz2 rfl (by decide) (.slice vo l vc) (.slice (some ⟨wr.heap.size, 0, none⟩) 1 1) l 1 (u8s cur) (u8s [b]) (World.ownsRow.alloc HO.out _) (srcc_byte (heap_new rfl _)) (u8s_one _) (by simp only [maxLen]; omega) (by omega) (by rw [World.size_alloc]; omega)
      obtain ⟨vo6, vc6, rfl⟩ := row_shape r2
      have HR6 := hide r1
      have HB6 := hide (show Below w.heap.size w w6 from (HB.out.alloc zr _).grown r3 (by rw [World.size_alloc]; omega) (fun j hj => (World.ownsRow.lt HO.out j hj).1))
      have HO6 := hide (show Own w6 w.heap.size (.slice vo6 (l + 1) vc6) (cur ++ [b]) from by
        unfold Own
        rw [List.length_append, HL.out, u8s_app]
        exact r2)
      clear r1 r2 r3 r4 hug hbb hq hxf
      go_wp2_with (at_builtin; refine wpList_run 46 _ w6 _ _ _ rfl (.tmp 6) (.tmp 11) rfl rfl rfl HR6.out ?_)
      go_wp2_with fail
      exact ⟨⟨q, f', cur ++ [b], rfl, by omega, HU2.out, hx2, by rw [List.length_append, HL.out]; simp; omega, by rw [List.length_append, HL.out]; simp; omega, HO6.out, HB6.out⟩, by simp only [intOf]; omega⟩
    · have hus := Uv.uvf_small f x (by omega)
      have HU2 := hide (show Uv.uv n = cur ++ [x] from by rw [HUV.out, hus])
      have hwx : IntKind.u8.wrap (x : Int) = (x : Int) := by rw [IntKind.wrap_u8]; omega
      have hxi : ¬ (128 : Int) ≤ (x : Int) := by omega
      obtain ⟨v6, w6, r1, r2, r3, r4⟩ := run_row (wr.alloc (.cells #[.int .u8 (x : Nat)] 5)) w.heap.size 46 46 5 i0 _ 1 1 Tryd.underlying46 hi hz0 hz1 hz2 rfl (by decide) (.slice vo l vc) (.slice (some ⟨wr.heap.size, 0, none⟩) 1 1) l 1 (u8s cur) (u8s [x]) (World.ownsRow.alloc HO.out _) (srcc_byte (heap_new rfl _)) (u8s_one _) (by simp only [maxLen]; omega) (by omega) (by rw [World.size_alloc]; omega)
      obtain ⟨vo6, vc6, rfl⟩ := row_shape r2
      have HR6 := hide r1
      have HB6 := hide (show Below w.heap.size w w6 from (HB.out.alloc zr _).grown r3 (by rw [World.size_alloc]; omega) (fun j hj => (World.ownsRow.lt HO.out j hj).1))
      have HO6 := hide (show Own w6 w.heap.size (.slice vo6 (l + 1) vc6) (Uv.uv n) from by
        unfold Own
        rw [HU2.out, List.length_append, HL.out, u8s_app]
        exact r2)
      clear r1 r2 r3 r4 hus hxf
      go_wp2_with (at_builtin; refine wpList_run 46 _ w6 _ _ _ rfl (.tmp 15) (.tmp 18) rfl rfl rfl HR6.out ?_)
      go_wp2_with fail
      go_ret
      exact ⟨_, rfl, HO6.out, HB6.out⟩
end Go.Proofs.YtmkbbekeimnajaaDoor

/-! Rb: the document's block of a set (81) -/
namespace Go.Proofs.YtmkbbekeimnajaaDoor
open Go.RowKit Ds
theorem push_byte (w0 wr : World) {B : Nat} {v : Value} {cur : List Nat} (b : Nat) (hO : Own wr B v cur) (hb : Below B w0 wr) (hB : B ≤ wr.heap.size) (hl : cur.length ≤ 140737488350000) :
    ∃ v' w', (Builtin.append_ #[46, 46] 46 #[v, .slice (some ⟨wr.heap.size, 0, none⟩) 1 1]).run Tryd.prog (wr.alloc (.cells #[.int .u8 (b : Nat)] 5)) = .ok v' w' ∧ Own w' B v' (cur ++ [b]) ∧ Below B w0 w' := by
  obtain ⟨i0, hi, hz0, hz1, hz2⟩ := info_parts info5
  have hO' := hO
  unfold Own at hO'
  obtain ⟨v6, w6, r1, r2, r3, r4⟩ := run_row (wr.alloc (.cells #[.int .u8 (b : Nat)] 5)) B 46 46 5 i0 _ 1 1 Tryd.underlying46 hi hz0 hz1 hz2 rfl (by decide) v (.slice (some ⟨wr.heap.size, 0, none⟩) 1 1) cur.length 1 (u8s cur) (u8s [b]) (World.ownsRow.alloc hO' _) (srcc_byte (heap_new rfl _)) (u8s_one _) (by simp only [maxLen]; omega) (by omega) (by rw [World.size_alloc]; omega)
  refine ⟨v6, w6, r1, ?_, (hb.alloc hB _).grown r3 (by rw [World.size_alloc]; omega) (fun j hj => (World.ownsRow.lt hO' j hj).1)⟩
  unfold Own
  rw [List.length_append, u8s_app]
  exact r2
theorem Own.le {w : World} {A B : Nat} {v : Value} {bs : List Nat} (h : Own w B v bs) (hAB : A ≤ B) : Own w A v bs := by
  obtain ⟨h1, h2 | ⟨g, cap, cur, h3, h4, h5⟩⟩ := h
  · exact ⟨h1, .inl h2⟩
  · exact ⟨h1, .inr ⟨g, cap, cur, h3, Nat.le_trans hAB h4, h5⟩⟩
theorem ret_tb {v : Value} {a b : Bool} (h : a = b) : Ending.returned (.tuple #[v, .bool a]) = .returned (.tuple #[v, .bool b]) := by rw [h]
/-- the ones of the first k numbers -/
theorem num_first : ∀ (k : Nat) (f : Nat → Bool), num (k + 1) f = 2 * num k (fun i => f (i + 1)) + (if f 0 then 1 else 0)
  | 0, f => by simp [num]
  | k + 1, f => by
    rw [num, num_first k f, num, Nat.pow_succ]
    split <;> split <;> omega
def bitsK (f : Nat → Bool) (w q : Nat) : List Nat := (List.range q).map fun k => num 8 fun i => decide (8 * k + i < w) && f (8 * k + i)
theorem bitsK_succ (f : Nat → Bool) (w q : Nat) : bitsK f w (q + 1) = bitsK f w q ++ [num 8 fun i => decide (8 * q + i < w) && f (8 * q + i)] := by simp [bitsK, List.range_succ]
theorem bitsK_len (f : Nat → Bool) (w q : Nat) : (bitsK f w q).length = q := by simp [bitsK]
theorem num_down (G : Nat → Bool) (i : Nat) (hi : i < 8) : num (8 - i) (fun t => G (i + t)) = 2 * num (8 - (i + 1)) (fun t => G (i + 1 + t)) + (if G i then 1 else 0) := by
  rw [show 8 - i = (8 - (i + 1)) + 1 by omega, num_first]
  congr 3
  funext t
  congr 1
  omega
def blkL (f : Nat → Bool) (w tag : Nat) : List Nat :=
  if tag = 0 then [0] else if tag = 1 then [1] else if cnt f w = 0 ∨ cnt f w = w then []
  else if tag = 2 then 2 :: (cnt f w - 1) :: mem f w else if tag = 3 then 3 :: (w - cnt f w - 1) :: mem (inv f) w else 4 :: bitsB f w
def blkOk (f : Nat → Bool) (w tag : Nat) : Bool :=
  if tag = 0 then decide (cnt f w = 0) else if tag = 1 then decide (cnt f w = w) else !decide (cnt f w = 0 ∨ cnt f w = w)
set_option maxRecDepth 100000 in
set_option maxHeartbeats 4000000 in
theorem ref_block (w : World) {g n : Nat} {m : Nat → Bool} (h : ROwn w g n m) (hn : n ≤ 1048576) (lo hi wd tag : Nat) (hh : hi = lo + wd) (hin : hi ≤ n) (hw0 : 0 < wd) (hw : wd ≤ 256) (ht : tag ≤ 4) (f : Nat → Bool) (hf : ∀ k, m (lo + k) = f k) :
    Calls Tryd.prog 81 #[RefV g n, .int .i64 (lo : Nat), .int .i64 (hi : Nat), .int .i64 (tag : Nat)] w fun e w' => ∃ v, e = .returned (.tuple #[v, .bool (blkOk f wd tag)]) ∧ Own w' w.heap.size v (blkL f wd tag) ∧ Below w.heap.size w w' := by
  have HR := hide h
  have HF := hide hf
  clear h hf
  have hq : (hi : Int) - (lo : Int) = (wd : Int) := by omega
  have HH := hide hh
  clear hh
  go_enter Tryd.func81, Tryd.ntmps81
  go_wp2_with fail
  have hA : (w.alloc (.cells #[.int .i64 (n : Nat), .slice (some ⟨g, 0, none⟩) n n] 54)).heap[w.heap.size]? = some (.cells #[.int .i64 (n : Nat), .slice (some ⟨g, 0, none⟩) n n] 54 (0, 0)) := heap_new rfl _
  have hb : Below w.heap.size w (w.alloc (.cells #[.int .i64 (n : Nat), .slice (some ⟨g, 0, none⟩) n n] 54)) := (Below.refl _ w).alloc (Nat.le_refl _) _
  have hs1 : (w.alloc (.cells #[.int .i64 (n : Nat), .slice (some ⟨g, 0, none⟩) n n] 54)).heap.size = w.heap.size + 1 := World.size_alloc _ _
  have HB := hide hb
  have HS1 := hide hs1
  have HR1 := hide (HR.out.keep hb)
  clear hb hs1
  generalize w.alloc (.cells #[.int .i64 (n : Nat), .slice (some ⟨g, 0, none⟩) n n] 54) = w1 at *
  have HA := hide hA
  obtain ⟨c0, c1⟩ := cells2 hA
  clear hA
  go_loopw [11, 12] (fun c i wr => ∃ k : Nat, c = .int .i64 (cnt f k : Nat) ∧ i = .int .i64 ((lo + k : Nat) : Int) ∧ k ≤ wd ∧ w1 = wr) (fun _ i _ => hi - (intOf i).toNat)
  case atStart => exact ⟨0, rfl, rfl, Nat.zero_le _, rfl⟩
  case round =>
    obtain ⟨k, rfl, rfl, hk, rfl⟩ := hrel
    by_cases hlt : k < wd
    · have hii : (lo : Int) + (k : Int) < (hi : Int) := by have := HH.out; omega
      have hcc := HR1.out.cell (i := lo + k) (by have := HH.out; omega)
      rw [HF.out k] at hcc
      have hcl := cnt_le f k
      have hcs := cnt_succ f k
      cases hmi : f k with
      | false =>
        rw [hmi] at hcc hcs
        have HC := hide (show cnt f (k + 1) = cnt f k from by rw [hcs]; simp)
        clear hcs hmi
        go_wp2_with fail
        exact ⟨⟨k + 1, vi (by rw [HC.out]), vi (by push_cast; omega), by omega, trivial⟩, by have := HH.out; simp only [intOf]; omega⟩
      | true =>
        rw [hmi] at hcc hcs
        have HC := hide (show cnt f (k + 1) = cnt f k + 1 from by rw [hcs]; simp)
        clear hcs hmi
        go_wp2_with fail
        exact ⟨⟨k + 1, vi (by rw [HC.out]; push_cast; omega), vi (by push_cast; omega), by omega, trivial⟩, by have := HH.out; simp only [intOf]; omega⟩
    · obtain rfl : wd = k := by omega
      obtain ⟨c, hc⟩ : ∃ c, cnt f wd = c := ⟨_, rfl⟩
      have hcl := cnt_le f wd
      rw [hc] at hcl ⊢
      have HC := hide hc
      clear hc
      have hnh : ¬ (lo : Int) + (wd : Int) < (hi : Int) := by have := HH.out; omega
      by_cases t0 : tag = 0
      · subst t0
        have HL := hide (show blkL f wd 0 = [0] from rfl)
        have HK := hide (show blkOk f wd 0 = decide (c = 0) from by unfold blkOk; rw [HC.out]; rfl)
        have HO0 : Hid (Own (w1.alloc (.cells #[.int .u8 0] 5)) w.heap.size (.slice (some ⟨w1.heap.size, 0, none⟩) 1 1) [0]) := own_lit w1 w.heap.size [0] (by have := HS1.out; omega) (by simp) #[.int .u8 0] rfl
        by_cases z0 : c = 0
        · subst z0
          go_wp2_with fail
          go_ret2
          exact ⟨.slice (some ⟨w1.heap.size, 0, none⟩) 1 1, by rw [HK.out]; rfl, by rw [HL.out]; exact HO0.out, HB.out.alloc (by have := HS1.out; omega) _⟩
        · have zi : ¬ (c : Int) = 0 := by omega
          go_wp2_with fail
          go_ret2
          exact ⟨.slice (some ⟨w1.heap.size, 0, none⟩) 1 1, by rw [HK.out, decide_eq_false z0]; exact ret_tb (by simp only [beq_eq_false_iff_ne, ne_eq]; exact zi), by rw [HL.out]; exact HO0.out, HB.out.alloc (by have := HS1.out; omega) _⟩
      by_cases t1 : tag = 1
      · subst t1
        have HL := hide (show blkL f wd 1 = [1] from rfl)
        have HK := hide (show blkOk f wd 1 = decide (c = wd) from by unfold blkOk; rw [HC.out]; rfl)
        have HO0 : Hid (Own (w1.alloc (.cells #[.int .u8 1] 5)) w.heap.size (.slice (some ⟨w1.heap.size, 0, none⟩) 1 1) [1]) := own_lit w1 w.heap.size [1] (by have := HS1.out; omega) (by simp) #[.int .u8 1] rfl
        by_cases z0 : c = wd
        · subst z0
          go_wp2_with fail
          go_ret2
          exact ⟨.slice (some ⟨w1.heap.size, 0, none⟩) 1 1, by rw [HK.out]; exact ret_tb (by simp), by rw [HL.out]; exact HO0.out, HB.out.alloc (by have := HS1.out; omega) _⟩
        · have zi : ¬ (c : Int) = (wd : Int) := by omega
          go_wp2_with fail
          go_ret2
          exact ⟨.slice (some ⟨w1.heap.size, 0, none⟩) 1 1, by rw [HK.out, decide_eq_false z0]; exact ret_tb (by simp only [beq_eq_false_iff_ne, ne_eq]; exact zi), by rw [HL.out]; exact HO0.out, HB.out.alloc (by have := HS1.out; omega) _⟩
      have ti0 : ¬ (tag : Int) = 0 := by omega
      have ti1 : ¬ (tag : Int) = 1 := by omega
      have hwt : IntKind.u8.wrap (tag : Int) = (tag : Int) := by rw [IntKind.wrap_u8]; omega
      by_cases z0 : c = 0 ∨ c = wd
      · have HL := hide (show blkL f wd tag = [] from by unfold blkL; rw [HC.out, if_neg t0, if_neg t1, if_pos z0])
        have HK := hide (show blkOk f wd tag = false from by unfold blkOk; rw [HC.out, if_neg t0, if_neg t1, decide_eq_true z0]; rfl)
        rcases z0 with z0 | z0
        · subst z0
          go_wp2_with fail
          go_ret2
          exact ⟨.slice none 0 0, by rw [HK.out]; rfl, by rw [HL.out]; exact World.ownsRow_nil _ _ _ _, HB.out.alloc (by have := HS1.out; omega) _⟩
        · subst z0
          by_cases zz : c = 0
          · omega
          have zi : ¬ (c : Int) = 0 := by omega
          go_wp2_with fail
          go_ret2
          exact ⟨.slice none 0 0, by rw [HK.out]; rfl, by rw [HL.out]; exact World.ownsRow_nil _ _ _ _, HB.out.alloc (by have := HS1.out; omega) _⟩
      have z1 : ¬ c = 0 := by omega
      have z2 : ¬ c = wd := by omega
      have z3 : ((c : Int) == 0) = false := by simp only [beq_eq_false_iff_ne, ne_eq]; omega
      have z4 : ((c : Int) == (wd : Int)) = false := by simp only [beq_eq_false_iff_ne, ne_eq]; omega
      by_cases t2 : tag = 2
      · subst t2
        have HL := hide (show blkL f wd 2 = [2, c - 1] ++ Ds.mem f wd from by unfold blkL; rw [HC.out, if_neg (by decide), if_neg (by decide), if_neg (by omega)]; simp)
        have HK := hide (show blkOk f wd 2 = true from by unfold blkOk; rw [HC.out, if_neg (by decide), if_neg (by decide)]; simp; omega)
        have HO0 : Hid (Own (w1.alloc (.cells #[.int .u8 2] 5)) w1.heap.size (.slice (some ⟨w1.heap.size, 0, none⟩) 1 1) [2]) := own_lit w1 w1.heap.size [2] (Nat.le_refl _) (by simp) #[.int .u8 2] rfl
        have HB0 := hide ((Below.refl _ w1).alloc (Nat.le_refl _) (.cells #[.int .u8 2] 5) : Below w1.heap.size w1 _)
        have hs2 : (w1.alloc (.cells #[.int .u8 2] 5)).heap.size = w1.heap.size + 1 := World.size_alloc _ _
        obtain ⟨y, hy⟩ : ∃ y : Nat, c - 1 = y := ⟨_, rfl⟩
        have hyi : (c : Int) - 1 = (y : Int) := by omega
        have hwy : IntKind.u8.wrap (y : Int) = (y : Int) := by rw [IntKind.wrap_u8]; omega
        have HY := hide hy
        obtain ⟨v6, w6, r1, r2, r3⟩ := push_byte w1 (w1.alloc (.cells #[.int .u8 2] 5)) y HO0.out HB0.out (by omega) (by simp)
        rw [hs2] at r1
        have HR6 := hide r1
        have HO6 := hide (show Own w6 w1.heap.size v6 [2, c - 1] from by rw [HY.out]; exact r2)
        have HB6 := hide r3
        clear r1 r2 r3 hy
        have zr6 := HB6.out.size
        go_wp2_with (at_builtin; refine wpList_run 46 _ w6 _ _ _ rfl (.tmp 69) (.tmp 73) rfl rfl rfl HR6.out ?_)
        go_wp2_with fail
        go_loopw [13, 15] (fun v i wr => ∃ k : Nat, i = .int .i64 ((lo + k : Nat) : Int) ∧ k ≤ wd ∧ Own wr w1.heap.size v ([2, c - 1] ++ Ds.mem f k) ∧ Below w1.heap.size w1 wr) (fun _ i _ => hi - (intOf i).toNat)
        case atStart => exact ⟨0, rfl, Nat.zero_le _, by simpa [Ds.mem] using HO6.out, HB6.out⟩
        case round =>
          obtain ⟨k, rfl, hk, hown, hb6⟩ := hrel
          have HO := hide hown
          have HBr := hide hb6
          have zr := hb6.size
          have hRr := HR1.out.keep hb6
          obtain ⟨c0, c1⟩ := cells2 ((hb6.block _ (heap_lt HA.out)).trans HA.out)
          clear hown hb6 HO6 HB6
          have hml : (Ds.mem f k).length ≤ k := cnt_le f k
          by_cases hlt : k < wd
          · have hii : (lo : Int) + (k : Int) < (hi : Int) := by have := HH.out; omega
            have hcc := hRr.cell (i := lo + k) (by have := HH.out; omega)
            rw [HF.out k] at hcc
            have hms := mem_succ f k
            have hkk : (lo : Int) + (k : Int) - (lo : Int) = (k : Int) := by omega
            have hwk : IntKind.u8.wrap (k : Int) = (k : Int) := by rw [IntKind.wrap_u8]; omega
            cases hmi : f k with
            | false =>
              rw [hmi] at hcc
              have HE := hide (show Ds.mem f (k + 1) = Ds.mem f k from by rw [hms]; simp [hmi])
              clear hms hmi
              go_wp2_with fail
              exact ⟨⟨k + 1, vi (by push_cast; omega), by omega, by rw [HE.out]; exact HO.out, HBr.out⟩, by have := HH.out; simp only [intOf]; omega⟩
            | true =>
              rw [hmi] at hcc
              have HE := hide (show Ds.mem f (k + 1) = Ds.mem f k ++ [k] from by rw [hms]; simp [hmi])
              clear hms hmi
              obtain ⟨v6, w6, r1, r2, r3⟩ := push_byte w1 wr k HO.out HBr.out zr (by rw [List.length_append]; simp only [List.length_cons, List.length_nil]; omega)
              have HR6 := hide r1
              have HO6 := hide r2
              have HB6 := hide r3
              clear r1 r2 r3
              go_wp2_with (at_builtin; refine wpList_run 46 _ w6 _ _ _ rfl (.tmp 89) (.tmp 94) rfl rfl rfl HR6.out ?_)
              go_wp2_with fail
              exact ⟨⟨k + 1, vi (by push_cast; omega), by omega, by rw [HE.out, ← List.append_assoc]; exact HO6.out, HB6.out⟩, by have := HH.out; simp only [intOf]; omega⟩
          · obtain rfl : wd = k := by omega
            have hii : ¬ (lo : Int) + (wd : Int) < (hi : Int) := by have := HH.out; omega
            go_wp2_with fail
            go_ret2
            refine ⟨u13, ?_, ?_, HB.out.trans (HBr.out.mono (by have := HS1.out; omega))⟩
            · rw [HK.out]; rfl
            · rw [HL.out]
              exact HO.out.le (by have := HS1.out; omega)
      by_cases t3 : tag = 3
      · subst t3
        have HL := hide (show blkL f wd 3 = [3, wd - c - 1] ++ Ds.mem (inv f) wd from by unfold blkL; rw [HC.out, if_neg (by decide), if_neg (by decide), if_neg (by omega)]; simp)
        have HK := hide (show blkOk f wd 3 = true from by unfold blkOk; rw [HC.out, if_neg (by decide), if_neg (by decide)]; simp; omega)
        have HO0 : Hid (Own (w1.alloc (.cells #[.int .u8 3] 5)) w1.heap.size (.slice (some ⟨w1.heap.size, 0, none⟩) 1 1) [3]) := own_lit w1 w1.heap.size [3] (Nat.le_refl _) (by simp) #[.int .u8 3] rfl
        have HB0 := hide ((Below.refl _ w1).alloc (Nat.le_refl _) (.cells #[.int .u8 3] 5) : Below w1.heap.size w1 _)
        have hs2 : (w1.alloc (.cells #[.int .u8 3] 5)).heap.size = w1.heap.size + 1 := World.size_alloc _ _
        obtain ⟨y, hy⟩ : ∃ y : Nat, wd - c - 1 = y := ⟨_, rfl⟩
        have hyi : (wd : Int) - (c : Int) - 1 = (y : Int) := by omega
        have hwy : IntKind.u8.wrap (y : Int) = (y : Int) := by rw [IntKind.wrap_u8]; omega
        have HY := hide hy
        obtain ⟨v6, w6, r1, r2, r3⟩ := push_byte w1 (w1.alloc (.cells #[.int .u8 3] 5)) y HO0.out HB0.out (by omega) (by simp)
        rw [hs2] at r1
        have HR6 := hide r1
        have HO6 := hide (show Own w6 w1.heap.size v6 [3, wd - c - 1] from by rw [HY.out]; exact r2)
        have HB6 := hide r3
        clear r1 r2 r3 hy
        have zr6 := HB6.out.size
        go_wp2_with (at_builtin; refine wpList_run 46 _ w6 _ _ _ rfl (.tmp 69) (.tmp 73) rfl rfl rfl HR6.out ?_)
        go_wp2_with fail
        go_loopw [13, 15] (fun v i wr => ∃ k : Nat, i = .int .i64 ((lo + k : Nat) : Int) ∧ k ≤ wd ∧ Own wr w1.heap.size v ([3, wd - c - 1] ++ Ds.mem (inv f) k) ∧ Below w1.heap.size w1 wr) (fun _ i _ => hi - (intOf i).toNat)
        case atStart => exact ⟨0, rfl, Nat.zero_le _, by simpa [Ds.mem] using HO6.out, HB6.out⟩
        case round =>
          obtain ⟨k, rfl, hk, hown, hb6⟩ := hrel
          have HO := hide hown
          have HBr := hide hb6
          have zr := hb6.size
          have hRr := HR1.out.keep hb6
          obtain ⟨c0, c1⟩ := cells2 ((hb6.block _ (heap_lt HA.out)).trans HA.out)
          clear hown hb6 HO6 HB6
          have hml : (Ds.mem (inv f) k).length ≤ k := cnt_le (inv f) k
          by_cases hlt : k < wd
          · have hii : (lo : Int) + (k : Int) < (hi : Int) := by have := HH.out; omega
            have hcc := hRr.cell (i := lo + k) (by have := HH.out; omega)
            rw [HF.out k] at hcc
            have hms := mem_succ (inv f) k
            have hkk : (lo : Int) + (k : Int) - (lo : Int) = (k : Int) := by omega
            have hwk : IntKind.u8.wrap (k : Int) = (k : Int) := by rw [IntKind.wrap_u8]; omega
            cases hmi : f k with
            | true =>
              rw [hmi] at hcc
              have HE := hide (show Ds.mem (inv f) (k + 1) = Ds.mem (inv f) k from by rw [hms]; simp [inv, hmi])
              clear hms hmi
              go_wp2_with fail
              exact ⟨⟨k + 1, vi (by push_cast; omega), by omega, by rw [HE.out]; exact HO.out, HBr.out⟩, by have := HH.out; simp only [intOf]; omega⟩
            | false =>
              rw [hmi] at hcc
              have HE := hide (show Ds.mem (inv f) (k + 1) = Ds.mem (inv f) k ++ [k] from by rw [hms]; simp [inv, hmi])
              clear hms hmi
              obtain ⟨v6, w6, r1, r2, r3⟩ := push_byte w1 wr k HO.out HBr.out zr (by rw [List.length_append]; simp only [List.length_cons, List.length_nil]; omega)
              have HR6 := hide r1
              have HO6 := hide r2
              have HB6 := hide r3
              clear r1 r2 r3
              go_wp2_with (at_builtin; refine wpList_run 46 _ w6 _ _ _ rfl (.tmp 89) (.tmp 94) rfl rfl rfl HR6.out ?_)
              go_wp2_with fail
              exact ⟨⟨k + 1, vi (by push_cast; omega), by omega, by rw [HE.out, ← List.append_assoc]; exact HO6.out, HB6.out⟩, by have := HH.out; simp only [intOf]; omega⟩
          · obtain rfl : wd = k := by omega
            have hii : ¬ (lo : Int) + (wd : Int) < (hi : Int) := by have := HH.out; omega
            go_wp2_with fail
            go_ret2
            refine ⟨u13, ?_, ?_, HB.out.trans (HBr.out.mono (by have := HS1.out; omega))⟩
            · rw [HK.out]; rfl
            · rw [HL.out]
              exact HO.out.le (by have := HS1.out; omega)
      obtain rfl : tag = 4 := by omega
      have HL := hide (show blkL f wd 4 = [4] ++ bitsK f wd ((wd + 7) / 8) from by unfold blkL; rw [HC.out, if_neg (by decide), if_neg (by decide), if_neg z0]; rfl)
      have HK := hide (show blkOk f wd 4 = true from by unfold blkOk; rw [HC.out, if_neg (by decide), if_neg (by decide)]; simp; omega)
      have HO0 : Hid (Own (w1.alloc (.cells #[.int .u8 4] 5)) w1.heap.size (.slice (some ⟨w1.heap.size, 0, none⟩) 1 1) [4]) := own_lit w1 w1.heap.size [4] (Nat.le_refl _) (by simp) #[.int .u8 4] rfl
      have HB0 := hide ((Below.refl _ w1).alloc (Nat.le_refl _) (.cells #[.int .u8 4] 5) : Below w1.heap.size w1 _)
      have hs2 : (w1.alloc (.cells #[.int .u8 4] 5)).heap.size = w1.heap.size + 1 := World.size_alloc _ _
      obtain ⟨q, hqq⟩ : ∃ q, (wd + 7) / 8 = q := ⟨_, rfl⟩
      have hqi : ((wd : Int) + 7) / 8 = (q : Int) := by omega
      have hq32 : q ≤ 32 := by omega
      rw [hqq] at HL
      clear hqq
      go_wp2_with fail
      have HR2 := hide (HR1.out.keep HB0.out)
      generalize w1.alloc (.cells #[.int .u8 4] 5) = w2 at *
      go_loopw [13, 16] (fun v i wr => ∃ j : Nat, i = .int .i64 (j : Nat) ∧ j ≤ q ∧ Own wr w1.heap.size v ([4] ++ bitsK f wd j) ∧ Below w1.heap.size w1 wr) (fun _ i _ => q - (intOf i).toNat)
      case atStart => exact ⟨0, rfl, Nat.zero_le _, HO0.out, HB0.out⟩
      case round =>
        obtain ⟨j, rfl, hj, hown, hb6⟩ := hrel
        have HO := hide hown
        have HBr := hide hb6
        have zr := hb6.size
        have HRr := hide (HR1.out.keep hb6)
        obtain ⟨c0, c1⟩ := cells2 ((hb6.block _ (heap_lt HA.out)).trans HA.out)
        clear hown hb6 HO0 HB0
        by_cases hlt : j < q
        · obtain ⟨G, hG⟩ : ∃ G : Nat → Bool, (fun i => decide (8 * j + i < wd) && f (8 * j + i)) = G := ⟨_, rfl⟩
          have hji : (j : Int) < (q : Int) := by omega
          go_wp2_with fail
          go_loopw [17, 18] (fun b z wy => ∃ i : Nat, b = .int .i64 (num (8 - i) (fun t => G (i + t)) : Nat) ∧ z = .int .i64 ((i : Int) - 1) ∧ i ≤ 8 ∧ wr = wy) (fun _ z _ => (intOf z + 1).toNat)
          case atStart => exact ⟨8, rfl, rfl, by omega, rfl⟩
          case round =>
            obtain ⟨i, rfl, rfl, hi8, hwy⟩ := hrel
            subst hwy
            by_cases hi0 : i = 0
            · subst hi0
              obtain ⟨b, hb⟩ : ∃ b, num (8 - 0) (fun t => G (0 + t)) = b := ⟨_, rfl⟩
              have hb256 : b < 256 := by rw [← hb]; exact num_lt 8 _
              have hwb : IntKind.u8.wrap (b : Int) = (b : Int) := by rw [IntKind.wrap_u8]; omega
              have HE := hide (show bitsK f wd (j + 1) = bitsK f wd j ++ [b] from by
                rw [bitsK_succ, hG, ← hb]
                simp only [Nat.zero_add, Nat.sub_zero])
              rw [hb, show ((0 : Nat) : Int) - 1 = -1 from rfl]
              clear hb hG
              have hbl := bitsK_len f wd j
              obtain ⟨v6, w6, r1, r2, r3⟩ := push_byte w1 wr b HO.out HBr.out zr (by rw [List.length_append, hbl]; simp only [List.length_cons, List.length_nil]; omega)
              have HR6 := hide r1
              have HO6 := hide r2
              have HB6 := hide r3
              clear r1 r2 r3
              go_wp2_with (at_builtin; refine wpList_run 46 _ w6 _ _ _ rfl (.tmp 132) (.tmp 135) rfl rfl rfl HR6.out ?_)
              go_wp2_with fail
              exact ⟨⟨j + 1, vi (by push_cast; omega), by omega, by rw [HE.out, ← List.append_assoc]; exact HO6.out, HB6.out⟩, by simp only [intOf]; omega⟩
            · obtain ⟨i', rfl⟩ : ∃ i', i = i' + 1 := ⟨i - 1, by omega⟩
              have HD := hide (num_down G i' (by omega))
              obtain ⟨b, hb⟩ : ∃ b, num (8 - (i' + 1)) (fun t => G (i' + 1 + t)) = b := ⟨_, rfl⟩
              have hb128 : b < 128 := by
                rw [← hb]
                exact Nat.lt_of_lt_of_le (num_lt _ _) (Nat.le_trans (Nat.pow_le_pow_right (by decide) (show 8 - (i' + 1) ≤ 7 by omega)) (by decide))
              rw [hb] at HD
              rw [hb, show ((i' + 1 : Nat) : Int) - 1 = (i' : Int) by omega]
              have hmi := HF.out (8 * j + i')
              rw [← Nat.add_assoc] at hmi
              have hGi : G i' = (decide (8 * j + i' < wd) && f (8 * j + i')) := by rw [← hG]
              clear hb hG
              by_cases hin2 : 8 * j + i' < wd
              · have hii : (lo : Int) + 8 * (j : Int) + (i' : Int) < (hi : Int) := by have := HH.out; omega
                have hcc := HRr.out.cell (i := lo + (8 * j) + i') (by have := HH.out; omega)
                rw [hmi] at hcc
                rw [decide_eq_true hin2, Bool.true_and] at hGi
                cases hfi : f (8 * j + i') with
                | false =>
                  rw [hfi] at hcc hGi
                  rw [hGi] at HD
                  clear hmi hGi hfi
                  go_wp2_with fail
                  exact ⟨⟨i', vi (by rw [HD.out]; simp), rfl, by omega, trivial⟩, by simp only [intOf]; omega⟩
                | true =>
                  rw [hfi] at hcc hGi
                  rw [hGi] at HD
                  clear hmi hGi hfi
                  go_wp2_with fail
                  exact ⟨⟨i', vi (by rw [HD.out]; simp), rfl, by omega, trivial⟩, by simp only [intOf]; omega⟩
              · have hii : ¬ (lo : Int) + 8 * (j : Int) + (i' : Int) < (hi : Int) := by have := HH.out; omega
                rw [decide_eq_false hin2, Bool.false_and] at hGi
                rw [hGi] at HD
                clear hmi hGi
                go_wp2_with fail
                exact ⟨⟨i', vi (by rw [HD.out]; simp), rfl, by omega, trivial⟩, by simp only [intOf]; omega⟩
        · obtain rfl : q = j := by omega
          go_wp2_with fail
          go_ret2
          refine ⟨u13, ?_, ?_, HB.out.trans (HBr.out.mono (by have := HS1.out; omega))⟩
          · rw [HK.out]; rfl
          · rw [HL.out]
            exact HO.out.le (by have := HS1.out; omega)
end Go.Proofs.YtmkbbekeimnajaaDoor
