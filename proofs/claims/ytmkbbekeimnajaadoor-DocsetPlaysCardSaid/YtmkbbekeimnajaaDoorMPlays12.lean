/- texts of this proof, one behind the other: Rp Rr Re2 Rg2 Nt -/
import Derived.Test.YtmkbbekeimnajaaDoorMPlays0
import Derived.Test.YtmkbbekeimnajaaDoorMPlays1
import Derived.Test.YtmkbbekeimnajaaDoorMPlays2
import Derived.Test.YtmkbbekeimnajaaDoorMPlays3
import Derived.Test.YtmkbbekeimnajaaDoorMPlays4
import Derived.Test.YtmkbbekeimnajaaDoorMPlays5
import Derived.Test.YtmkbbekeimnajaaDoorMPlays6
import Derived.Test.YtmkbbekeimnajaaDoorMPlays7
import Derived.Test.YtmkbbekeimnajaaDoorMPlays8
import Derived.Test.YtmkbbekeimnajaaDoorMPlays9
import Derived.Test.YtmkbbekeimnajaaDoorMPlays10
import Derived.Test.YtmkbbekeimnajaaDoorMPlays11
import Derived.Laws.StructEq
import Derived.ChangeKeysEq
/-! Rp: the document's New (69), Of (39) -/
namespace Go.Proofs.YtmkbbekeimnajaaDoor
open Go.RowKit Ds
abbrev RefNo : Value := .agg #[.int .i64 0, .slice none 0 0]
abbrev refBox (g n : Nat) : Obj := .cells #[.int .i64 (n : Nat), .slice (some ⟨g, 0, none⟩) n n] 54 (0, 0)
abbrev noBox : Obj := .cells #[.int .i64 0, .slice none 0 0] 54 (0, 0)
set_option maxRecDepth 100000 in
set_option maxHeartbeats 2000000 in
theorem ref_new (w : World) (n : Nat) (hn : n ≤ 1048576) :
    Calls Tryd.prog 69 #[.int .i64 (n : Nat)] w fun e w' => ∃ g, e = .returned (.tuple #[RefV g n, .int .i64 0]) ∧ w.heap.size ≤ g ∧ ROwn w' g n (fun _ => false) ∧ Below w.heap.size w w' := by
  obtain ⟨i4, hi4, hz0, hz41, hz42⟩ := info_parts info4
  have h1 : ¬ (n : Int) < 0 := by omega
  have h2 : ¬ (1048576 : Int) < (n : Int) := by omega
  have hbz := (Below.refl w.heap.size w).alloc (Nat.le_refl _) noBox
  have hrz : (w.alloc noBox).heap[w.heap.size]? = some noBox := heap_new rfl _
  have hz1 : (w.alloc noBox).heap.size = w.heap.size + 1 := World.size_alloc _ _
  have HBZ := hide hbz
  have HRZ := hide hrz
  have HZ1 := hide hz1
  clear hbz hrz hz1
  go_enter Tryd.func69, Tryd.ntmps69
  go_upto_region 1 with (fail)
  generalize w.alloc noBox = w1 at *
  have hown : ROwn (w1.alloc (.cells (madeCells #[Value.bool false] n) 4)) w1.heap.size n (fun _ => false) := by
    unfold ROwn
    rw [← made_bvs]
    exact heap_new rfl _
  have HOM := hide hown
  have HRM := hide (heap_old HRZ.out (.cells (madeCells #[Value.bool false] n) 4))
  have HBM := hide (HBZ.out.alloc HBZ.out.size (.cells (madeCells #[Value.bool false] n) 4))
  clear hown
  obtain ⟨c0, c1⟩ := cells2 HRM.out
  have hf0 := free_at HRM.out 0
  have hf1 := free_at HRM.out 1
  go_wp2_with (at_make; refine wpList_make_row w1 rfl (.tmp 12) (.tmp 12) 52 rfl 4 i4 (.bool false) Tryd.underlying52 hi4 hz0 hz41 rfl .i64 .i64 n rfl rfl (by rw [hz42]; omega) (by omega) ?_)
  generalize w1.alloc (.cells (madeCells #[Value.bool false] n) 4) = w2 at *
  go_wp2_with fail
  have hne : w1.heap.size ≠ w.heap.size := by have := HZ1.out; omega
  refine bodyPost_ret (results_cell2 rfl _ _ w.heap.size 54 _ (0, 0) _ rfl (set2 HRM.out) Tryd.underlying54 rfl size54) rfl ⟨w1.heap.size, rfl, HBZ.out.size, heap_else (heap_else HOM.out hne _) hne _, below_set (below_set HBM.out (Nat.le_refl _) _) (Nat.le_refl _) _⟩
set_option maxRecDepth 100000 in
theorem ref_new_bad (w : World) (n : Int) (hn : n < 0 ∨ 1048576 < n) :
    Calls Tryd.prog 69 #[.int .i64 n] w fun e w' => e = .returned (.tuple #[RefNo, .int .i64 8]) ∧ Below w.heap.size w w' := by
  have hbz := (Below.refl w.heap.size w).alloc (Nat.le_refl _) noBox
  have hrz : (w.alloc noBox).heap[w.heap.size]? = some noBox := heap_new rfl _
  have HBZ := hide hbz
  have HRZ := hide hrz
  obtain ⟨c0, c1⟩ := cells2 hrz
  have hf0 := free_at hrz 0
  have hf1 := free_at hrz 1
  clear hbz hrz
  by_cases h0 : n < 0
  · clear hn
    go_enter Tryd.func69, Tryd.ntmps69
    go_upto_region 1 with (fail)
    generalize w.alloc noBox = w1 at *
    go_wp2_with fail
    refine bodyPost_ret (results_cell2 rfl _ _ w.heap.size 54 _ (0, 0) _ rfl (set2 HRZ.out) Tryd.underlying54 rfl size54) rfl ⟨rfl, below_set (below_set HBZ.out (Nat.le_refl _) _) (Nat.le_refl _) _⟩
  · have h1 : (1048576 : Int) < n := by omega
    clear hn
    go_enter Tryd.func69, Tryd.ntmps69
    go_upto_region 1 with (fail)
    generalize w.alloc noBox = w1 at *
    go_wp2_with fail
    refine bodyPost_ret (results_cell2 rfl _ _ w.heap.size 54 _ (0, 0) _ rfl (set2 HRZ.out) Tryd.underlying54 rfl size54) rfl ⟨rfl, below_set (below_set HBZ.out (Nat.le_refl _) _) (Nat.le_refl _) _⟩
/-- what the document's Of answers -/
def RefOf (n : Int) (zs : List Int) (B : Nat) (e : Ending) (w' : World) : Prop :=
  (∃ (N g : Nat), n = (N : Int) ∧ N ≤ 1048576 ∧ (∀ z ∈ zs, 0 ≤ z ∧ z < n) ∧ e = .returned (.tuple #[RefV g N, .int .i64 0]) ∧ B ≤ g ∧ ROwn w' g N (mOf zs)) ∨
  ((¬ (0 ≤ n ∧ n ≤ 1048576 ∧ ∀ z ∈ zs, 0 ≤ z ∧ z < n)) ∧ e = .returned (.tuple #[RefNo, .int .i64 8]))
theorem DeSt.putB {w wr : World} {Z g Y n : Nat} {m : Nat → Bool} (h : DeSt w Z g Y n m wr) (hZ : Z ≠ g) (hY : Y ≠ g) (hg : w.heap.size ≤ g) (i : Nat) (b : Bool) : DeSt w Z g Y n (put m i b) (wr.setCell ⟨g, i, none⟩ (.bool b)) :=
  ⟨h.own.put i b, heap_else h.box hY _, heap_else h.res hZ _, below_set h.below hg _⟩
set_option maxRecDepth 100000 in
set_option maxHeartbeats 4000000 in
theorem ref_of (w : World) (n : Int) (ao : Option Addr) (c : Nat) (zs : List Int) (hz : Ints w (.slice ao zs.length c) zs) (hl : zs.length ≤ 1152921504606846976) :
    Calls Tryd.prog 39 #[.int .i64 n, .slice ao zs.length c] w fun e w' => RefOf n zs w.heap.size e w' ∧ Below w.heap.size w w' := by
  have HZ := hide hz
  clear hz
  have hbz := (Below.refl w.heap.size w).alloc (Nat.le_refl _) noBox
  have hrz : (w.alloc noBox).heap[w.heap.size]? = some noBox := heap_new rfl _
  have hz1 : (w.alloc noBox).heap.size = w.heap.size + 1 := World.size_alloc _ _
  have HBZ := hide hbz
  have HRZ := hide hrz
  have HZ1 := hide hz1
  obtain ⟨zl, hzl⟩ : ∃ zl, zs.length = zl := ⟨_, rfl⟩
  rw [hzl] at hl HZ ⊢
  have HZL := hide hzl
  by_cases hn : 0 ≤ n ∧ n ≤ 1048576
  · obtain ⟨N, rfl⟩ : ∃ N : Nat, n = (N : Int) := ⟨n.toNat, by omega⟩
    have hN : N ≤ 1048576 := by omega
    clear hn hbz hrz hz1 hzl
    have HNW := hide (ref_new (w.alloc noBox) N hN)
    go_enter Tryd.func39, Tryd.ntmps39
    go_upto_region 1 with (fail)
    generalize w.alloc noBox = w1 at *
    go_wp2_with fail
    refine HNW.out.mono ?_
    rintro e w2 ⟨g, rfl, hg, ho, hb⟩
    have z2 := hb.size
    have hbx := (Below.refl w2.heap.size w2).alloc (Nat.le_refl _) (refBox g N)
    have hgw := heap_lt ho
    have HST := hide (show DeSt w w.heap.size g w2.heap.size N (fun _ => false) (w2.alloc (refBox g N)) from
      ⟨ho.keep hbx, heap_new rfl _, (hbx.block _ (by have := HZ1.out; omega)).trans ((hb.block _ (by have := HZ1.out; omega)).trans HRZ.out), (HBZ.out.trans (hb.mono HBZ.out.size)).alloc (by have := HBZ.out.size; omega) _⟩)
    clear ho hb hbx HNW
    go_upto_region 2 with (fail)
    generalize w2.alloc (refBox g N) = w3 at *
    obtain ⟨Y, hY⟩ : ∃ Y, w2.heap.size = Y := ⟨_, rfl⟩
    obtain ⟨Z, hZZ⟩ : ∃ Z, w.heap.size = Z := ⟨_, rfl⟩
    have hYg : Y ≠ g := by omega
    have hgz : w.heap.size ≤ g := by have := HZ1.out; omega
    have hZg : Z ≠ g := by have := HZ1.out; omega
    have hZw : w.heap.size ≤ Z := by omega
    rw [hY, hZZ] at HST
    rw [hY]
    have HZZ := hide hZZ
    clear hY hgw hZZ
    go_wp2_with fail
    rw [HZZ.out]
    go_loopw [8] (fun k wr => ∃ i : Nat, k = .int .i64 (i : Nat) ∧ i ≤ zl ∧ (∀ z ∈ zs.take i, 0 ≤ z ∧ z < (N : Int)) ∧ DeSt w Z g Y N (mOf (zs.take i)) wr) (fun k _ => zl - (intOf k).toNat)
    case atStart => exact ⟨0, rfl, by omega, by simp, by rw [List.take_zero, mOf_nil]; exact HST.out⟩
    case round =>
      obtain ⟨i, rfl, hi, hr, hst⟩ := hrel
      have HR := hide hr
      have HSr := hide hst
      clear hr hst HST
      by_cases hlt : i < zl
      · obtain ⟨z, hx⟩ : ∃ z, zs[i]? = some z := ⟨_, List.getElem?_eq_getElem (by rw [HZL.out]; exact hlt)⟩
        obtain ⟨ad, rfl, hc⟩ := ints_get (ints_keep HZ.out HSr.out.below) hx
        have hi1 : (i : Int) < (zl : Int) := by omega
        have HTK := hide (show zs.take (i + 1) = zs.take i ++ [z] from by rw [List.take_add_one, hx]; rfl)
        have HMEM := hide (List.mem_of_getElem? hx)
        clear hx
        by_cases hzr : 0 ≤ z ∧ z < (N : Int)
        · obtain ⟨j, rfl⟩ : ∃ j : Nat, z = (j : Int) := ⟨z.toNat, by omega⟩
          have hjN : j < N := by omega
          have hjn0 : ¬ (j : Int) < 0 := by omega
          have hjnN : ¬ (N : Int) ≤ (j : Int) := by omega
          have HRN := hide (show ∀ z ∈ zs.take (i + 1), 0 ≤ z ∧ z < (N : Int) from by
            rw [HTK.out]
            intro z hz
            rcases List.mem_append.1 hz with hz | hz
            · exact HR.out z hz
            · simp at hz; subst hz; exact hzr)
          clear hzr
          have hwj : IntKind.i64.wrap (j : Int) = (j : Int) := by rw [IntKind.wrap_i64]; omega
          obtain ⟨c0, c1⟩ := cells2 HSr.out.box
          have hcc := HSr.out.own.cell (i := j) hjN
          have hfr := HSr.out.own.free j
          have HP := hide (show DeSt w Z g Y N (mOf (zs.take (i + 1))) ((wr.setCell ⟨g, j, none⟩ (.bool true)).drew) from by
            rw [HTK.out, mOf_snoc]
            exact (HSr.out.putB hZg hYg hgz j true).drewN 1)
          go_wp2_with fail
          refine wp_region_still_tail 7 (by kernel_rfl) (by kernel_rfl) ?_
          simp only [List.take_succ_cons, List.take_zero, List.drop_succ_cons, List.drop_zero]
          repeat still_step
          refine wpStill_nil ?_
          go_wp2_with fail
          exact ⟨⟨i + 1, vi (by push_cast; omega), by omega, HRN.out, HP.out⟩, by simp only [intOf]; omega⟩
        · have HBAD := hide (show ¬ (0 ≤ (N : Int) ∧ (N : Int) ≤ 1048576 ∧ ∀ z ∈ zs, 0 ≤ z ∧ z < (N : Int)) from fun h => hzr (h.2.2 z HMEM.out))
          obtain ⟨c0, c1⟩ := cells2 HSr.out.res
          have hf0 := free_at HSr.out.res 0
          have hf1 := free_at HSr.out.res 1
          by_cases hz0 : z < 0
          · clear hzr
            go_wp2_with fail
            refine bodyPost_ret (results_cell2 rfl _ _ Z 54 _ (0, 0) _ rfl (set2 HSr.out.res) Tryd.underlying54 rfl size54) rfl ⟨.inr ⟨HBAD.out, rfl⟩, below_set (below_set HSr.out.below hZw _) hZw _⟩
          · have hzN : (N : Int) ≤ z := by omega
            clear hzr
            go_wp2_with fail
            refine bodyPost_ret (results_cell2 rfl _ _ Z 54 _ (0, 0) _ rfl (set2 HSr.out.res) Tryd.underlying54 rfl size54) rfl ⟨.inr ⟨HBAD.out, rfl⟩, below_set (below_set HSr.out.below hZw _) hZw _⟩
      · obtain rfl : i = zl := by omega
        obtain ⟨c0, c1⟩ := cells2 HSr.out.res
        obtain ⟨d0, d1⟩ := cells2 HSr.out.box
        have hf0 := free_at HSr.out.res 0
        have hf1 := free_at HSr.out.res 1
        have hall : zs.take i = zs := by rw [← HZL.out, List.take_length]
        have HRA := hide HR.out
        rw [hall] at HRA HSr
        go_wp2_with fail
        refine bodyPost_ret (results_cell2 rfl _ _ Z 54 _ (0, 0) _ rfl (set2 HSr.out.res) Tryd.underlying54 rfl size54) rfl ⟨.inl ⟨N, g, rfl, hN, HRA.out, rfl, hgz, ?_⟩, below_set (below_set HSr.out.below hZw _) hZw _⟩
        exact heap_else (heap_else HSr.out.own (fun e => hZg e.symm) _) (fun e => hZg e.symm) _
  · have HNW := hide (ref_new_bad (w.alloc noBox) n (by omega))
    have HBAD := hide (show ¬ (0 ≤ n ∧ n ≤ 1048576 ∧ ∀ z ∈ zs, 0 ≤ z ∧ z < n) from fun h => hn ⟨h.1, h.2.1⟩)
    clear hn hbz hrz hz1 hzl
    go_enter Tryd.func39, Tryd.ntmps39
    go_upto_region 1 with (fail)
    generalize w.alloc noBox = w1 at *
    go_wp2_with fail
    refine HNW.out.mono ?_
    rintro e w2 ⟨rfl, hb⟩
    have z2 := hb.size
    have hr2 := (hb.block _ (heap_lt HRZ.out)).trans HRZ.out
    have hbx := (HBZ.out.trans (hb.mono HBZ.out.size)).alloc (by have := HBZ.out.size; omega) noBox
    have HR3 := hide (heap_old hr2 noBox)
    have HB3 := hide hbx
    clear hr2 hbx hb HNW
    go_upto_region 2 with (fail)
    generalize w2.alloc noBox = w3 at *
    obtain ⟨c0, c1⟩ := cells2 HR3.out
    have hf0 := free_at HR3.out 0
    have hf1 := free_at HR3.out 1
    go_wp2_with fail
    refine bodyPost_ret (results_cell2 rfl _ _ w.heap.size 54 _ (0, 0) _ rfl (set2 HR3.out) Tryd.underlying54 rfl size54) rfl ⟨.inr ⟨HBAD.out, rfl⟩, below_set (below_set HB3.out (Nat.le_refl _) _) (Nat.le_refl _) _⟩
end Go.Proofs.YtmkbbekeimnajaaDoor

/-! Rr: the document's Runs (70); rows of runs held against one another (71); flip (72) -/
namespace Ds
theorem rn_last (l : List (Nat × Nat)) (i : Nat) : ∃ a, (rnStep l i).getLast? = some (a, i) := by
  unfold rnStep
  cases h : l.getLast? with
  | none => exact ⟨i, rfl⟩
  | some p =>
    dsimp only
    split
    · exact ⟨p.1, by simp⟩
    · exact ⟨i, by simp⟩
theorem runs_last_mem {xs : List Nat} {p : Nat × Nat} (h : (runs xs).getLast? = some p) : p.2 ∈ xs := by
  rcases List.eq_nil_or_concat xs with rfl | ⟨q, x, rfl⟩
  · simp [runs_nil] at h
  · rw [List.concat_eq_append, runs_snoc] at h
    obtain ⟨a, ha⟩ := rn_last (runs q) x
    rw [ha] at h
    simp only [Option.some.injEq] at h
    subst h
    simp
/-- a member with its predecessor -/
theorem runs_join {m : Nat → Bool} {i : Nat} (h : m (i + 1) = true) (hp : m i = true) : ∃ p, (runs (mem m (i + 1))).getLast? = some p ∧ p.2 + 1 = i + 1 ∧ runs (mem m (i + 2)) = (runs (mem m (i + 1))).dropLast ++ [(p.1, i + 1)] := by
  have h1 : mem m (i + 1) = mem m i ++ [i] := by rw [mem_succ, hp]; rfl
  have h2 : mem m (i + 2) = mem m (i + 1) ++ [i + 1] := by rw [mem_succ m (i + 1), h]; rfl
  obtain ⟨a, ha⟩ := rn_last (runs (mem m i)) i
  have hl : (runs (mem m (i + 1))).getLast? = some (a, i) := by rw [h1, runs_snoc]; exact ha
  refine ⟨(a, i), hl, rfl, ?_⟩
  rw [h2, runs_snoc]
  conv => lhs; unfold rnStep
  rw [hl]
  dsimp only
  rw [if_pos rfl]
theorem runs_alone {m : Nat → Bool} {i : Nat} (h : m i = true) (hp : i = 0 ∨ m (i - 1) = false) : runs (mem m (i + 1)) = runs (mem m i) ++ [(i, i)] := by
  have h2 : mem m (i + 1) = mem m i ++ [i] := by rw [mem_succ, h]; rfl
  rw [h2, runs_snoc]
  conv => lhs; unfold rnStep
  cases hl : (runs (mem m i)).getLast? with
  | none => rw [List.getLast?_eq_none_iff.1 hl]; rfl
  | some p =>
    dsimp only
    have hm := runs_last_mem hl
    have hlt := mem_iff.1 hm
    rw [if_neg]
    intro e
    rcases hp with rfl | hp
    · omega
    · rw [show i - 1 = p.2 by omega, hlt.2] at hp
      cases hp
end Ds
namespace Go.Proofs.YtmkbbekeimnajaaDoor
open Go.RowKit Ds
set_option maxRecDepth 100000 in
set_option maxHeartbeats 2000000 in
theorem ref_runs (w : World) {g n : Nat} {m : Nat → Bool} (h : ROwn w g n m) (hn : n ≤ 1048576) :
    Calls Tryd.prog 70 #[RefV g n] w fun e w' => ∃ v, e = .returned v ∧ w'.ownsRow w.heap.size 43 2 v (runs (Ds.mem m n)).length (runCells (runs (Ds.mem m n))) ∧ Below w.heap.size w w' := by
  have HR := hide h
  obtain ⟨i0, hi, hz0, hz1, hz2⟩ := info_parts info43
  clear h
  go_enter Tryd.func70, Tryd.ntmps70
  go_upto_region 2 with (fail)
  have hA : (w.alloc (refBox g n)).heap[w.heap.size]? = some (refBox g n) := heap_new rfl _
  have hb : Below w.heap.size w (w.alloc (refBox g n)) := (Below.refl _ w).alloc (Nat.le_refl _) _
  have HA := hide hA
  have HB := hide hb
  have HR1 := hide (HR.out.keep hb)
  clear hA hb
  generalize w.alloc (refBox g n) = w1 at *
  go_wp2_with fail
  go_loopw [3, 4] (fun v j wr => ∃ i : Nat, j = .int .i64 (i : Nat) ∧ i ≤ n ∧ wr.ownsRow w.heap.size 43 2 v (runs (Ds.mem m i)).length (runCells (runs (Ds.mem m i))) ∧ Below w.heap.size w wr ∧ ROwn wr g n m ∧ wr.heap[w.heap.size]? = some (refBox g n)) (fun _ j _ => n - (intOf j).toNat)
  case atStart => exact ⟨0, rfl, Nat.zero_le _, World.ownsRow_nil _ _ _ _, HB.out, HR1.out, HA.out⟩
  case round =>
    obtain ⟨i, rfl, hi2, hown, hb, hr, ha⟩ := hrel
    have HO := hide hown
    have HBr := hide hb
    have HRr := hide hr
    have HAr := hide ha
    have zr := hb.size
    obtain ⟨c0, c1⟩ := cells2 ha
    obtain ⟨vo, vc, rfl⟩ := row_shape hown
    clear hown hb hr ha HB HR1 HA
    by_cases hlt : i < n
    · have hii : (i : Int) < (n : Int) := by omega
      have hcc := HRr.out.cell hlt
      have hms := mem_succ m i
      obtain ⟨L, hL⟩ : ∃ L, runs (Ds.mem m i) = L := ⟨_, rfl⟩
      have hLl : L.length ≤ i := by rw [← hL]; have h1 := runs_len _ (Ds.mem m i) rfl; have h2 := cnt_le m i; unfold cnt at h2; omega
      rw [hL] at HO ⊢
      have HL := hide hL
      obtain ⟨l, hll⟩ : ∃ l, L.length = l := ⟨_, rfl⟩
      rw [hll] at HO hLl ⊢
      have HLL := hide hll
      cases hmi : m i with
      | false =>
        rw [hmi] at hcc hms
        have HE := hide (show runs (Ds.mem m (i + 1)) = L from by rw [hms, ← hL]; simp)
        clear hms hmi hL hll
        go_wp2_with fail
        refine ⟨⟨i + 1, vi (by omega), by omega, ?_, HBr.out, HRr.out, HAr.out⟩, by simp only [intOf]; omega⟩
        rw [HE.out, HLL.out]
        exact HO.out
      | true =>
        rw [hmi] at hcc
        by_cases hjoin : ∃ j, i = j + 1 ∧ m j = true
        · obtain ⟨j, rfl, hj⟩ := hjoin
          obtain ⟨p, hp, hpx, hrn⟩ := runs_join hmi hj
          rw [hL] at hp hrn
          have hLs := snoc_of_last hp
          obtain ⟨Q, hQ⟩ : ∃ Q, L.dropLast = Q := ⟨_, rfl⟩
          rw [hQ] at hLs hrn
          have hlq : l = Q.length + 1 := by rw [← HLL.out, hLs]; simp
          obtain ⟨hc0, hc1⟩ := runCells_last Q p
          rw [hLs] at HO
          obtain ⟨g2, cp2, hv2, hl3, hl4, hg2⟩ := row_at HO.out (by omega)
          simp only [Value.slice.injEq, true_and] at hv2
          obtain ⟨rfl, rfl⟩ := hv2
          obtain ⟨q, hq⟩ : ∃ q, Q.length = q := ⟨_, rfl⟩
          rw [hq] at hc0 hc1 hlq
          subst hlq
          have hcp := row_cell HO.out hc1
          have hcell := hcp.1
          have hfree := hcp.2
          have hput := row_put HO.out (q * 2 + 1) (.int .i64 ((j + 1 : Nat) : Int))
          rw [← hq, runCells_set, hq] at hput
          have HP := hide (show (wr.setCell ⟨g2, q * 2 + 1, none⟩ (.int .i64 ((j + 1 : Nat) : Int))).ownsRow w.heap.size 43 2 (.slice (some ⟨g2, 0, none⟩) (q + 1) vc) (runs (Ds.mem m (j + 2))).length (runCells (runs (Ds.mem m (j + 2)))) from by
            rw [hrn, List.length_append, hq]; exact hput)
          have hty : ∃ cur, wr.heap[g2]? = some (.cells cur 43 (0, 0)) := by
            obtain ⟨_, ⟨hv, _⟩ | ⟨g', cap', cur, hv, _, hh, _⟩⟩ := HO.out
            · cases hv
            · simp only [Value.slice.injEq, Option.some.injEq, Addr.mk.injEq, true_and, and_true] at hv
              obtain ⟨rfl, rfl⟩ := hv
              exact ⟨cur, hh⟩
          obtain ⟨cur, hcur⟩ := hty
          have hng : g ≠ g2 := by rintro rfl; have := HRr.out; unfold ROwn at this; rw [hcur] at this; simp at this
          have hnY : w.heap.size ≠ g2 := by rintro e; have := HAr.out; rw [e, hcur] at this; simp at this
          have HR2 := hide (show ROwn (wr.setCell ⟨g2, q * 2 + 1, none⟩ (.int .i64 ((j + 1 : Nat) : Int))) g n m from heap_else HRr.out hng _)
          have HA2 := hide (show (wr.setCell ⟨g2, q * 2 + 1, none⟩ (.int .i64 ((j + 1 : Nat) : Int))).heap[w.heap.size]? = some (refBox g n) from heap_else HAr.out hnY _)
          have HB2 := hide (below_set (i := q * 2 + 1) HBr.out hg2 (.int .i64 ((j + 1 : Nat) : Int)))
          have hcj := HRr.out.cell (i := j) (by omega)
          rw [hj] at hcj
          obtain ⟨x, hx⟩ : ∃ x, j + 1 = x := ⟨_, rfl⟩
          have hxj : (x : Int) - 1 = (j : Int) := by omega
          have hx0 : (0 : Int) < (x : Int) := by omega
          have hwq : IntKind.i64.wrap (((q + 1 : Nat) : Int) - 1) = (q : Int) := by rw [IntKind.wrap_i64]; omega
          have hq2 : q ≤ 1048576 := by omega
          have hii2 : (x : Int) < (n : Int) := by omega
          have HX := hide hx
          rw [hx] at HP HR2 HA2 HB2 hcc ⊢
          clear hp hpx hLs hQ hrn hc0 hc1 hq hcp hput hms hmi hj hL hll hcur hng hnY hii hx
          go_wp2_with fail
          refine ⟨⟨x + 1, vi (by omega), by have := HX.out; omega, ?_, HB2.out, HR2.out, HA2.out⟩, by have := HX.out; simp only [intOf]; omega⟩
          have := HP.out
          rwa [show j + 2 = x + 1 by have := HX.out; omega] at this
        · have hrn : runs (Ds.mem m (i + 1)) = L ++ [(i, i)] := by
            rw [← hL]
            refine runs_alone hmi ?_
            by_cases e : i = 0
            · exact .inl e
            · right
              cases hq : m (i - 1) with
              | false => rfl
              | true => exact absurd ⟨i - 1, by omega, hq⟩ hjoin
          obtain ⟨v6, w6, r1, r2, r3, r4⟩ := run_row (wr.alloc (.cells #[.int .i64 (i : Nat), .int .i64 (i : Nat)] 43)) w.heap.size 41 41 43 i0 _ 2 16 Tryd.underlying41 hi hz0 hz1 hz2 rfl (by decide) (.slice vo l vc) (.slice (some ⟨wr.heap.size, 0, none⟩) 1 1) l 1 (runCells L) (runCells [(i, i)]) (World.ownsRow.alloc HO.out _) (srcc_run (heap_new rfl _)) (runCells_one _) (by simp only [maxLen]; omega) (by omega) (by rw [World.size_alloc]; omega)
          obtain ⟨vo6, vc6, rfl⟩ := row_shape r2
          have hown' := World.ownsRow.alloc HO.out (.cells #[.int .i64 (i : Nat), .int .i64 (i : Nat)] 43)
          have HR6 := hide r1
          have HB6 := hide (show Below w.heap.size w w6 from (HBr.out.alloc zr _).grown r3 (by rw [World.size_alloc]; omega) (fun j hj => (World.ownsRow.lt HO.out j hj).1))
          have HRR6 := hide (show ROwn w6 g n m from keepTy_grown r3 (notTy_row hown' (by decide)) _ _ _ (heap_old HRr.out _))
          have HA6 := hide (keepTy_grown r3 (notTy_row hown' (t := 54) (by decide)) _ _ _ (heap_old HAr.out (.cells #[.int .i64 (i : Nat), .int .i64 (i : Nat)] 43)))
          have HO6 := hide (show w6.ownsRow w.heap.size 43 2 (.slice vo6 (l + 1) vc6) (runs (Ds.mem m (i + 1))).length (runCells (runs (Ds.mem m (i + 1)))) from by
            rw [hrn, runCells_app, List.length_append, HLL.out]; exact r2)
          clear r1 r2 r3 r4 hrn hown' hms hmi hL hll
          by_cases hi0 : i = 0
          · subst hi0
            clear hjoin
            go_wp2_with (at_builtin; refine wpList_run 41 _ w6 _ _ _ rfl (.tmp 34) (.tmp 38) rfl rfl rfl HR6.out ?_)
            go_wp2_with fail
            exact ⟨⟨1, vi (by omega), by omega, HO6.out, HB6.out, HRR6.out, HA6.out⟩, by simp only [intOf]; omega⟩
          · obtain ⟨j, hj⟩ : ∃ j, i = j + 1 := ⟨i - 1, by omega⟩
            have hjf : m j = false := by
              cases hq : m j with
              | false => rfl
              | true => exact absurd ⟨j, hj, hq⟩ hjoin
            have hcj := HRr.out.cell (i := j) (by omega)
            rw [hjf] at hcj
            have hij : (i : Int) - 1 = (j : Int) := by omega
            have hi1 : (0 : Int) < (i : Int) := by omega
            have hjn : j < n := by omega
            clear hjoin hjf hj
            go_wp2_with (at_builtin; refine wpList_run 41 _ w6 _ _ _ rfl (.tmp 34) (.tmp 38) rfl rfl rfl HR6.out ?_)
            go_wp2_with fail
            exact ⟨⟨i + 1, vi (by omega), by omega, HO6.out, HB6.out, HRR6.out, HA6.out⟩, by simp only [intOf]; omega⟩
    · obtain rfl : n = i := by omega
      go_wp2_with fail
      go_ret
      exact ⟨_, rfl, HO.out, HBr.out⟩
end Go.Proofs.YtmkbbekeimnajaaDoor

/-! Re2: rows of runs held against one another (71) -/
namespace Go.Proofs.YtmkbbekeimnajaaDoor
open Go.RowKit Ds
set_option maxRecDepth 100000 in
theorem run_neq43 (w : World) (a b c d : Int) : (binOp .neq 43 (.agg #[.int .i64 a, .int .i64 b]) (.agg #[.int .i64 c, .int .i64 d])).run Tryd.prog w = .ok (.bool (!(a == c && b == d))) w := by
  obtain ⟨i, hi, _⟩ := info_parts info3
  have hc : Tryd.prog.cellsOf 3 = 1 := by kernel_rfl
  rw [run_neq_struct, run_equalIn_array w 9999 _ _ Tryd.underlying43 hi, hc]
  rw [show List.range 2 = [0, 1] from rfl]
  have hk : Tryd.prog.plainKey 3 = true := by kernel_rfl
  simp only [Op.eqItems, Sem.run_bind]
  rw [run_part_plain (P := Tryd.prog) w hk (xs := #[Value.int .i64 a, Value.int .i64 b]) (off := 0 * 1) (v := .int .i64 a) rfl]
  rw [Result.andThen_ok, run_part_plain (P := Tryd.prog) w hk (xs := #[Value.int .i64 c, Value.int .i64 d]) (off := 0 * 1) (v := .int .i64 c) rfl]
  rw [Result.andThen_ok, run_equalIn_int w 9998 3 .i64 .i64 a c Tryd.underlying3, Result.andThen_ok]
  cases h : (a == c) with
  | false => simp
  | true =>
    simp only [Bool.not_true, Bool.false_eq_true, if_false, Sem.run_bind]
    rw [run_part_plain (P := Tryd.prog) w hk (xs := #[Value.int .i64 a, Value.int .i64 b]) (off := 1 * 1) (v := .int .i64 b) rfl]
    rw [Result.andThen_ok, run_part_plain (P := Tryd.prog) w hk (xs := #[Value.int .i64 c, Value.int .i64 d]) (off := 1 * 1) (v := .int .i64 d) rfl]
    rw [Result.andThen_ok, run_equalIn_int w 9998 3 .i64 .i64 b d Tryd.underlying3, Result.andThen_ok]
    cases h2 : (b == d) <;> simp
theorem drop_atP {L : List (Nat × Nat)} {i : Nat} {p : Nat × Nat} (h : L[i]? = some p) : L.drop i = p :: L.drop (i + 1) := by
  obtain ⟨h1, h2⟩ := List.getElem?_eq_some_iff.1 h
  rw [List.drop_eq_getElem_cons h1, h2]
theorem runCells_at {L : List (Nat × Nat)} {i : Nat} {p : Nat × Nat} (h : L[i]? = some p) : (runCells L)[i * 2]? = some (.int .i64 (p.1 : Nat)) ∧ (runCells L)[i * 2 + 1]? = some (.int .i64 (p.2 : Nat)) := by
  have hl := (List.getElem?_eq_some_iff.1 h).1
  have e : L = L.take i ++ (p :: L.drop (i + 1)) := by rw [← drop_atP h, List.take_append_drop]
  have h1 : (runCells (L.take i)).length = i * 2 := by rw [runCells_len, List.length_take, Nat.min_eq_left (by omega)]
  rw [e, runCells_app]
  constructor
  · rw [List.getElem?_append_right (by omega), h1, Nat.sub_self]; rfl
  · rw [List.getElem?_append_right (by omega), h1, show i * 2 + 1 - i * 2 = 1 by omega]; rfl
set_option maxRecDepth 100000 in
set_option maxHeartbeats 2000000 in
theorem runs_equal (w : World) (B1 B2 : Nat) (v1 v2 : Value) (xs ys : List (Nat × Nat)) (h1 : w.ownsRow B1 43 2 v1 xs.length (runCells xs)) (h2 : w.ownsRow B2 43 2 v2 ys.length (runCells ys)) (hl : xs.length ≤ 1152921504606846976) :
    Calls Tryd.prog 71 #[v1, v2] w fun e w' => e = .returned (.bool (decide (xs = ys))) ∧ ∃ q, w' = w.drewN q := by
  obtain ⟨a1, c1, rfl⟩ := row_shape h1
  obtain ⟨a2, c2, rfl⟩ := row_shape h2
  have H1 := hide h1
  have H2 := hide h2
  clear h1 h2
  by_cases hn : xs.length = ys.length
  · have hni : ((xs.length : Int) == (ys.length : Int)) = true := by simp; omega
    have HN := hide hn
    rw [← hn]
    rw [← hn] at H2 hni
    clear hn
    obtain ⟨n, hnn⟩ : ∃ n, xs.length = n := ⟨_, rfl⟩
    have HNN := hide hnn
    rw [hnn] at H1 H2 hl hni ⊢
    clear hnn
    go_enter Tryd.func71, Tryd.ntmps71
    go_wp2_with fail
    go_loopw [13] (fun k wr => ∃ i d : Nat, k = .int .i64 (i : Nat) ∧ i ≤ n ∧ xs.take i = ys.take i ∧ wr = w.drewN d) (fun k _ => n - (intOf k).toNat)
    case atStart => exact ⟨0, 0, rfl, by omega, rfl, rfl⟩
    case round =>
      obtain ⟨i, d, rfl, hi, htk, rfl⟩ := hrel
      have HTK := hide htk
      clear htk
      by_cases hlt : i < n
      · obtain ⟨x, hx⟩ : ∃ x, xs[i]? = some x := ⟨_, List.getElem?_eq_getElem (by have := HNN.out; omega)⟩
        obtain ⟨y, hy⟩ : ∃ y, ys[i]? = some y := ⟨_, List.getElem?_eq_getElem (by have := HNN.out; have := HN.out; omega)⟩
        obtain ⟨g1, _, hv1, _⟩ := row_at H1.out (by omega)
        simp only [Value.slice.injEq, true_and] at hv1
        obtain ⟨rfl, rfl⟩ := hv1
        obtain ⟨g2, _, hv2, _⟩ := row_at H2.out (by omega)
        simp only [Value.slice.injEq, true_and] at hv2
        obtain ⟨rfl, rfl⟩ := hv2
        have hi1 : (i : Int) < (n : Int) := by omega
        have hc1 : (w.drewN d).cell? ⟨g1, i * 2, none⟩ = some (.int .i64 (x.1 : Nat)) := (row_cell H1.out (runCells_at hx).1).1
        have hd1 : (w.drewN d).cell? ⟨g1, i * 2 + 1, none⟩ = some (.int .i64 (x.2 : Nat)) := (row_cell H1.out (runCells_at hx).2).1
        have hc2 : (w.drewN d).cell? ⟨g2, i * 2, none⟩ = some (.int .i64 (y.1 : Nat)) := (row_cell H2.out (runCells_at hy).1).1
        have hd2 : (w.drewN d).cell? ⟨g2, i * 2 + 1, none⟩ = some (.int .i64 (y.2 : Nat)) := (row_cell H2.out (runCells_at hy).2).1
        generalize hwq : w.drewN d = wq at hc1 hc2 hd1 hd2 ⊢
        have HWQ := hide hwq
        have HX := hide hx
        have HY := hide hy
        clear hwq hx hy
        by_cases hxy : x = y
        · subst hxy
          have HT2 := hide (show xs.take (i + 1) = ys.take (i + 1) from by rw [List.take_add_one, List.take_add_one, HX.out, HY.out, HTK.out])
          have hq : ∀ wx : World, (binOp .neq 43 (.agg #[.int .i64 (x.1 : Nat), .int .i64 (x.2 : Nat)]) (.agg #[.int .i64 (x.1 : Nat), .int .i64 (x.2 : Nat)])).run Tryd.prog wx = .ok (.bool false) wx := fun wx => by rw [run_neq43]; simp
          go_wp2_with fail
          go_quiet (fail)
          go_wp2_with fail
          exact ⟨⟨i + 1, d + nq, by simp, by omega, HT2.out, by rw [← HWQ.out, World.drewN_drewN]⟩, by simp [intOf]; omega⟩
        · have hq : ∀ wx : World, (binOp .neq 43 (.agg #[.int .i64 (x.1 : Nat), .int .i64 (x.2 : Nat)]) (.agg #[.int .i64 (y.1 : Nat), .int .i64 (y.2 : Nat)])).run Tryd.prog wx = .ok (.bool true) wx := fun wx => by
            rw [run_neq43]
            have : ((((x.1 : Nat) : Int) == ((y.1 : Nat) : Int)) && (((x.2 : Nat) : Int) == ((y.2 : Nat) : Int))) = false := by
              rw [Bool.and_eq_false_iff]
              by_cases h1 : x.1 = y.1
              · right
                simp only [beq_eq_false_iff_ne, ne_eq]
                intro h2
                exact hxy (Prod.ext h1 (by omega))
              · left
                simp only [beq_eq_false_iff_ne, ne_eq]
                omega
            rw [this]
            rfl
          have HNE := hide (show decide (xs = ys) = false from decide_eq_false (fun e => hxy (by
            have h3 := HX.out
            rw [e, HY.out] at h3
            exact (Option.some.inj h3).symm)))
          clear hxy
          go_wp2_with fail
          go_quiet (fail)
          go_wp2_with fail
          go_ret
          exact ⟨by rw [HNE.out]; rfl, d + nq, by rw [← HWQ.out, World.drewN_drewN]⟩
      · obtain rfl : i = n := by omega
        have HEQ := hide (show decide (xs = ys) = true from decide_eq_true (by
          have h3 := HTK.out
          rw [List.take_of_length_le (by have := HNN.out; omega), List.take_of_length_le (by have := HNN.out; have := HN.out; omega)] at h3
          exact h3))
        go_wp2_with fail
        go_ret
        exact ⟨by rw [HEQ.out]; rfl, d, rfl⟩
  · have hni : ((xs.length : Int) == (ys.length : Int)) = false := by simp; omega
    have HNE := hide (show decide (xs = ys) = false from decide_eq_false (fun e => hn (by rw [e])))
    clear hn
    go_enter Tryd.func71, Tryd.ntmps71
    go_wp2_with fail
    go_ret
    exact ⟨by rw [HNE.out]; rfl, 0, rfl⟩
end Go.Proofs.YtmkbbekeimnajaaDoor

/-! Rg2: the document's Has Rank Count Select Next Equal -/
namespace Go.Proofs.YtmkbbekeimnajaaDoor
open Go.RowKit Ds
set_option maxRecDepth 100000 in
theorem ref_has_in (w : World) {g n : Nat} {m : Nat → Bool} (h : ROwn w g n m) (i : Nat) (hi : i < n) (hn : n ≤ 1048576) :
    Calls Tryd.prog 94 #[RefV g n, .int .i64 (i : Nat)] w fun e w' => e = .returned (.bool (m i)) ∧ Below w.heap.size w w' := by
  have HR := hide h
  clear h
  go_enter Tryd.func94, Tryd.ntmps94
  go_upto_region 1 with (fail)
  have hb := (Below.refl w.heap.size w).alloc (Nat.le_refl _) (refBox g n)
  have hbox : (w.alloc (refBox g n)).heap[w.heap.size]? = some (refBox g n) := heap_new rfl _
  have HR1 := hide (HR.out.keep hb)
  have HB := hide hb
  obtain ⟨c0, c1⟩ := cells2 hbox
  clear hb hbox HR
  generalize w.alloc (refBox g n) = w1 at *
  have hc := HR1.out.cell hi
  have h1 : (0 : Int) ≤ (i : Int) := by omega
  have h2 : (i : Int) < (n : Int) := by omega
  go_wp2_with fail
  first | go_ret | go_ret2
  exact ⟨rfl, HB.out⟩
set_option maxRecDepth 100000 in
theorem ref_has_out (w : World) {g n : Nat} {m : Nat → Bool} (h : ROwn w g n m) (i : Int) (hi : i < 0 ∨ n ≤ i) (hn : n ≤ 1048576) :
    Calls Tryd.prog 94 #[RefV g n, .int .i64 i] w fun e w' => e = .returned (.bool false) ∧ Below w.heap.size w w' := by
  have HR := hide h
  clear h
  go_enter Tryd.func94, Tryd.ntmps94
  go_upto_region 1 with (fail)
  have hb := (Below.refl w.heap.size w).alloc (Nat.le_refl _) (refBox g n)
  have hbox : (w.alloc (refBox g n)).heap[w.heap.size]? = some (refBox g n) := heap_new rfl _
  have HR1 := hide (HR.out.keep hb)
  have HB := hide hb
  obtain ⟨c0, c1⟩ := cells2 hbox
  clear hb hbox HR
  generalize w.alloc (refBox g n) = w1 at *
  by_cases h0 : 0 ≤ i
  · have h2 : ¬ i < (n : Int) := by omega
    clear hi
    go_wp2_with fail
    first | go_ret | go_ret2
    exact ⟨rfl, HB.out⟩
  · clear hi
    go_wp2_with fail
    first | go_ret | go_ret2
    exact ⟨rfl, HB.out⟩
set_option maxRecDepth 100000 in
set_option maxHeartbeats 2000000 in
theorem ref_rank (w : World) {g n : Nat} {m : Nat → Bool} (h : ROwn w g n m) (hoff : ∀ i, n ≤ i → m i = false) (i : Int) (hn : n ≤ 1048576) :
    Calls Tryd.prog 95 #[RefV g n, .int .i64 i] w fun e w' => e = .returned (.int .i64 (cnt m i.toNat : Nat)) ∧ Below w.heap.size w w' := by
  have HOFF := hide hoff
  clear hoff
  have HR := hide h
  clear h
  go_enter Tryd.func95, Tryd.ntmps95
  go_upto_region 1 with (fail)
  have hb := (Below.refl w.heap.size w).alloc (Nat.le_refl _) (refBox g n)
  have hbox : (w.alloc (refBox g n)).heap[w.heap.size]? = some (refBox g n) := heap_new rfl _
  have HR1 := hide (HR.out.keep hb)
  have HB := hide hb
  obtain ⟨c0, c1⟩ := cells2 hbox
  clear hb hbox HR
  generalize w.alloc (refBox g n) = w1 at *
  go_wp2_with fail
  go_loopw [5, 6] (fun c k wr => ∃ j : Nat, c = .int .i64 (cnt m j : Nat) ∧ k = .int .i64 (j : Nat) ∧ j ≤ n ∧ (j : Int) ≤ max i 0 ∧ wr = w1) (fun _ k _ => n - (intOf k).toNat)
  case atStart => exact ⟨0, rfl, rfl, by omega, by omega, rfl⟩
  case round =>
    obtain ⟨j, rfl, rfl, hj, hji, rfl⟩ := hrel
    have hcj := cnt_le m j
    by_cases hjn : j < n
    · have hd1 : (j : Int) < (n : Int) := by omega
      by_cases hjl : (j : Int) < i
      · have hc := HR1.out.cell hjn
        have hcs := cnt_succ m j
        cases hm : m j with
        | true =>
          rw [hm] at hc hcs
          have HC := hide (show cnt m (j + 1) = cnt m j + 1 from by rw [hcs]; rfl)
          clear hcs hm
          go_wp2_with fail
          exact ⟨⟨j + 1, vi (by rw [HC.out]; push_cast; omega), vi (by push_cast; omega), by omega, by omega, by trivial⟩, by simp only [intOf]; omega⟩
        | false =>
          rw [hm] at hc hcs
          have HC := hide (show cnt m (j + 1) = cnt m j from by rw [hcs]; rfl)
          clear hcs hm
          go_wp2_with fail
          exact ⟨⟨j + 1, vi (by rw [HC.out]), vi (by push_cast; omega), by omega, by omega, by trivial⟩, by simp only [intOf]; omega⟩
      · have HC := hide (show cnt m j = cnt m i.toNat from by
          have e : j = i.toNat := by omega
          rw [e])
        go_wp2_with fail
        first | go_ret | go_ret2
        exact ⟨by rw [HC.out]; rfl, HB.out⟩
    · have hd1 : ¬ (j : Int) < (n : Int) := by omega
      have HC := hide (show cnt m j = cnt m i.toNat from by
        have e : j = n := by omega
        rw [e]
        exact (cnt_off HOFF.out (by omega)).symm)
      go_wp2_with fail
      first | go_ret | go_ret2
      exact ⟨by rw [HC.out]; rfl, HB.out⟩
set_option maxRecDepth 100000 in
theorem ref_count (w : World) {g n : Nat} {m : Nat → Bool} (h : ROwn w g n m) (hoff : ∀ i, n ≤ i → m i = false) (hn : n ≤ 1048576) :
    Calls Tryd.prog 98 #[RefV g n] w fun e w' => e = .returned (.int .i64 (cnt m n : Nat)) ∧ Below w.heap.size w w' := by
  have HOFF := hide hoff
  clear hoff
  have HR := hide h
  clear h
  go_enter Tryd.func98, Tryd.ntmps98
  go_upto_region 1 with (fail)
  have hb := (Below.refl w.heap.size w).alloc (Nat.le_refl _) (refBox g n)
  have hbox : (w.alloc (refBox g n)).heap[w.heap.size]? = some (refBox g n) := heap_new rfl _
  have HR1 := hide (HR.out.keep hb)
  have HB := hide hb
  obtain ⟨c0, c1⟩ := cells2 hbox
  clear hb hbox HR
  generalize w.alloc (refBox g n) = w1 at *
  go_wp2_with fail
  refine (ref_rank w1 HR1.out HOFF.out (n : Int) hn).mono ?_
  rintro e w2 ⟨rfl, hb2⟩
  have HB2 := hide (HB.out.trans (hb2.mono HB.out.size))
  clear hb2
  go_wp2_with fail
  first | go_ret | go_ret2
  exact ⟨by simp, HB2.out⟩
set_option maxRecDepth 100000 in
set_option maxHeartbeats 2000000 in
theorem ref_select (w : World) {g n : Nat} {m : Nat → Bool} (h : ROwn w g n m) (k : Int) (hn : n ≤ 1048576) :
    Calls Tryd.prog 96 #[RefV g n, .int .i64 k] w fun e w' => SelOut m n k e ∧ Below w.heap.size w w' := by
  have HR := hide h
  clear h
  go_enter Tryd.func96, Tryd.ntmps96
  go_upto_region 1 with (fail)
  have hb := (Below.refl w.heap.size w).alloc (Nat.le_refl _) (refBox g n)
  have hbox : (w.alloc (refBox g n)).heap[w.heap.size]? = some (refBox g n) := heap_new rfl _
  have HR1 := hide (HR.out.keep hb)
  have HB := hide hb
  obtain ⟨c0, c1⟩ := cells2 hbox
  clear hb hbox HR
  generalize w.alloc (refBox g n) = w1 at *
  go_wp2_with fail
  go_loopw [6, 7] (fun c i wr => ∃ j : Nat, c = .int .i64 (cnt m j : Nat) ∧ i = .int .i64 (j : Nat) ∧ j ≤ n ∧ (k < 0 ∨ (cnt m j : Int) ≤ k) ∧ wr = w1) (fun _ i _ => n - (intOf i).toNat)
  case atStart => exact ⟨0, rfl, rfl, by omega, by simp only [cnt, Ds.mem]; simp; omega, rfl⟩
  case round =>
    obtain ⟨j, rfl, rfl, hj, hjk, rfl⟩ := hrel
    have hcj := cnt_le m j
    by_cases hjn : j < n
    · have hd1 : (j : Int) < (n : Int) := by omega
      have hc := HR1.out.cell hjn
      have hcs := cnt_succ m j
      cases hm : m j with
      | true =>
        rw [hm] at hc hcs
        by_cases hk : (cnt m j : Int) = k
        · have HS := hide (show SelOut m n k (.returned (.tuple #[.int .i64 (j : Nat), .bool true])) from by
            unfold SelOut
            have h1 : (Ds.mem m n)[k.toNat]? = some j := (mem_get m n k.toNat j).2 ⟨hjn, hm, by omega⟩
            rw [if_neg (by omega), h1])
          have HK := hide hk
          clear hcs hm hjk hk
          obtain ⟨cj, hcjj⟩ : ∃ cj, cnt m j = cj := ⟨_, rfl⟩
          have hk2 : (cj : Int) = k := by rw [← hcjj]; exact HK.out
          rw [hcjj]
          clear hcjj hcj
          subst hk2
          go_wp2_with fail
          first | go_ret | go_ret2
          exact ⟨HS.out, HB.out⟩
        · have HC := hide (show cnt m (j + 1) = cnt m j + 1 from by rw [hcs]; rfl)
          have HJ := hide (show k < 0 ∨ (cnt m (j + 1) : Int) ≤ k from by rw [HC.out]; push_cast; omega)
          clear hcs hm hjk
          go_wp2_with fail
          exact ⟨⟨j + 1, vi (by rw [HC.out]; push_cast; omega), vi (by push_cast; omega), by omega, HJ.out, by trivial⟩, by simp only [intOf]; omega⟩
      | false =>
        rw [hm] at hc hcs
        have HC := hide (show cnt m (j + 1) = cnt m j from by rw [hcs]; rfl)
        have HJ := hide (show k < 0 ∨ (cnt m (j + 1) : Int) ≤ k from by rw [HC.out]; exact hjk)
        clear hcs hm hjk
        go_wp2_with fail
        exact ⟨⟨j + 1, vi (by rw [HC.out]), vi (by push_cast; omega), by omega, HJ.out, by trivial⟩, by simp only [intOf]; omega⟩
    · have hd1 : ¬ (j : Int) < (n : Int) := by omega
      have HS := hide (show SelOut m n k (.returned (.tuple #[.int .i64 0, .bool false])) from by
        unfold SelOut
        by_cases h0 : k < 0
        · rw [if_pos h0]
        · rw [if_neg h0]
          have h1 : (Ds.mem m n)[k.toNat]? = none := List.getElem?_eq_none (by
            have e : j = n := by omega
            rw [e] at hjk
            unfold cnt at hjk
            omega)
          rw [h1])
      clear hjk
      go_wp2_with fail
      first | go_ret | go_ret2
      exact ⟨HS.out, HB.out⟩
set_option maxRecDepth 100000 in
set_option maxHeartbeats 2000000 in
theorem ref_next (w : World) {g n : Nat} {m : Nat → Bool} (h : ROwn w g n m) (i : Int) (hn : n ≤ 1048576) :
    Calls Tryd.prog 97 #[RefV g n, .int .i64 i] w fun e w' => NextOut m n i.toNat e ∧ Below w.heap.size w w' := by
  obtain ⟨q, hq⟩ : ∃ q, i.toNat = q := ⟨_, rfl⟩
  have HQ := hide hq
  rw [hq]
  have HI2 := hide (show i < 0 ∨ i = (q : Int) by omega)
  clear hq
  have HR := hide h
  clear h
  go_enter Tryd.func97, Tryd.ntmps97
  go_upto_region 1 with (fail)
  have hb := (Below.refl w.heap.size w).alloc (Nat.le_refl _) (refBox g n)
  have hbox : (w.alloc (refBox g n)).heap[w.heap.size]? = some (refBox g n) := heap_new rfl _
  have HR1 := hide (HR.out.keep hb)
  have HB := hide hb
  obtain ⟨c0, c1⟩ := cells2 hbox
  clear hb hbox HR
  generalize w.alloc (refBox g n) = w1 at *

  have HNS := hide (fun (j : Nat) (h1 : q ≤ j) (h2 : j < n) (h3 : m j = true) (h4 : ∀ x, q ≤ x → x < j → m x = false) => show NextOut m n q (.returned (.tuple #[.int .i64 (j : Nat), .bool true])) from by
    unfold NextOut
    rw [next_some h1 h2 h3 h4])
  have HNN := hide (fun (h4 : ∀ x, q ≤ x → x < n → m x = false) => show NextOut m n q (.returned (.tuple #[.int .i64 0, .bool false])) from by
    unfold NextOut
    rw [next_none h4])
  by_cases hneg : i < 0
  · have hq0 : q = 0 := by have := HQ.out; omega
    subst hq0
    go_wp2_with fail
    go_loopw [6] (fun k wr => ∃ j : Nat, k = .int .i64 (j : Nat) ∧ 0 ≤ j ∧ (∀ x, 0 ≤ x → x < j → m x = false) ∧ wr = w1) (fun k _ => n - (intOf k).toNat)
    case atStart => exact ⟨0, rfl, Nat.le_refl _, fun x h1 h2 => absurd h2 (by omega), rfl⟩
    case round =>
      obtain ⟨j, rfl, hqj, hno, rfl⟩ := hrel
      have HNO := hide hno
      clear hno
      by_cases hjn : j < n
      · have hd1 : (j : Int) < (n : Int) := by omega
        have hc := HR1.out.cell hjn
        cases hm : m j with
        | true =>
          rw [hm] at hc
          have HE := hide (HNS.out j hqj hjn hm HNO.out)
          clear hm
          go_wp2_with fail
          first | go_ret | go_ret2
          exact ⟨HE.out, HB.out⟩
        | false =>
          rw [hm] at hc
          have HNO2 := hide (show ∀ x, 0 ≤ x → x < j + 1 → m x = false from fun x h1 h2 => by
            by_cases e : x = j
            · rw [e]; exact hm
            · exact HNO.out x h1 (by omega))
          clear hm
          go_wp2_with fail
          exact ⟨⟨j + 1, vi (by push_cast; omega), by omega, HNO2.out, by trivial⟩, by simp only [intOf]; omega⟩
      · have hd1 : ¬ (j : Int) < (n : Int) := by omega
        have HE := hide (HNN.out (fun x h1 h2 => HNO.out x h1 (by omega)))
        go_wp2_with fail
        first | go_ret | go_ret2
        exact ⟨HE.out, HB.out⟩
  · have hi3 : i = (q : Int) := by have := HI2.out; omega
    subst hi3
    clear hneg HQ HI2
    go_wp2_with fail
    go_loopw [6] (fun k wr => ∃ j : Nat, k = .int .i64 (j : Nat) ∧ q ≤ j ∧ (∀ x, q ≤ x → x < j → m x = false) ∧ wr = w1) (fun k _ => n - (intOf k).toNat)
    case atStart => exact ⟨q, rfl, Nat.le_refl _, fun x h1 h2 => absurd h2 (by omega), rfl⟩
    case round =>
      obtain ⟨j, rfl, hqj, hno, rfl⟩ := hrel
      have HNO := hide hno
      clear hno
      by_cases hjn : j < n
      · have hd1 : (j : Int) < (n : Int) := by omega
        have hc := HR1.out.cell hjn
        cases hm : m j with
        | true =>
          rw [hm] at hc
          have HE := hide (HNS.out j hqj hjn hm HNO.out)
          clear hm
          go_wp2_with fail
          first | go_ret | go_ret2
          exact ⟨HE.out, HB.out⟩
        | false =>
          rw [hm] at hc
          have HNO2 := hide (show ∀ x, q ≤ x → x < j + 1 → m x = false from fun x h1 h2 => by
            by_cases e : x = j
            · rw [e]; exact hm
            · exact HNO.out x h1 (by omega))
          clear hm
          go_wp2_with fail
          exact ⟨⟨j + 1, vi (by push_cast; omega), by omega, HNO2.out, by trivial⟩, by simp only [intOf]; omega⟩
      · have hd1 : ¬ (j : Int) < (n : Int) := by omega
        have HE := hide (HNN.out (fun x h1 h2 => HNO.out x h1 (by omega)))
        go_wp2_with fail
        first | go_ret | go_ret2
        exact ⟨HE.out, HB.out⟩
set_option maxRecDepth 100000 in
set_option maxHeartbeats 2000000 in
theorem ref_equal_any (w : World) {g n g2 n2 : Nat} {m m2 : Nat → Bool} (h : ROwn w g n m) (h2 : ROwn w g2 n2 m2) (ho : ∀ i, n ≤ i → m i = false) (ho2 : ∀ i, n2 ≤ i → m2 i = false) (hn : n ≤ 1048576) (hn2 : n2 ≤ 1048576) (b : Bool) (hb0 : b = true ↔ n = n2 ∧ m = m2) :
    Calls Tryd.prog 100 #[RefV g n, RefV g2 n2] w fun e w' => e = .returned (.bool b) ∧ Below w.heap.size w w' := by
  have HBB := hide hb0
  clear hb0
  have HO := hide ho
  have HO2 := hide ho2
  clear ho ho2
  have HR := hide h
  have HR2 := hide h2
  clear h h2
  go_enter Tryd.func100, Tryd.ntmps100
  go_upto_region 1 with (fail)
  have hb1 := (Below.refl w.heap.size w).alloc (Nat.le_refl _) (refBox g n)
  have hb := hb1.alloc hb1.size (refBox g2 n2)
  have hbox : ((w.alloc (refBox g n)).alloc (refBox g2 n2)).heap[w.heap.size]? = some (refBox g n) := heap_old (heap_new rfl _) _
  have hbox2 : ((w.alloc (refBox g n)).alloc (refBox g2 n2)).heap[w.heap.size + 1]? = some (refBox g2 n2) := heap_new (World.size_alloc _ _).symm _
  have HR1 := hide (HR.out.keep hb)
  have HR3 := hide (HR2.out.keep hb)
  have HB := hide hb
  obtain ⟨c0, c1⟩ := cells2 hbox
  obtain ⟨d0, d1⟩ := cells2 hbox2
  clear hb hbox hbox2 hb1 HR HR2
  generalize (w.alloc (refBox g n)).alloc (refBox g2 n2) = w1 at *
  by_cases hnn : n = n2
  · subst hnn
    go_wp2_with fail
    go_loopw [5] (fun k wr => ∃ j : Nat, k = .int .i64 (j : Nat) ∧ j ≤ n ∧ (∀ i, i < j → m i = m2 i) ∧ ∃ q, wr = w1.drewN q) (fun k _ => n - (intOf k).toNat)
    case atStart => exact ⟨0, rfl, by omega, fun i hi => absurd hi (by omega), 0, rfl⟩
    case round =>
      obtain ⟨j, rfl, hj, hag, q, rfl⟩ := hrel
      have HAG := hide hag
      clear hag
      by_cases hjn : j < n
      · have hd1 : (j : Int) < (n : Int) := by omega
        have hc := HR1.out.cell hjn
        have hc2 := HR3.out.cell hjn
        cases hm : m j with
        | true =>
          cases hm2 : m2 j with
          | true =>
            rw [hm] at hc
            rw [hm2] at hc2
            have HAG2 := hide (show ∀ i, i < j + 1 → m i = m2 i from fun i hi => by
              by_cases e : i = j
              · rw [e, hm, hm2]
              · exact HAG.out i (by omega))
            clear hm hm2
            go_wp2_with fail
            go_quiet (fail)
            go_wp2_with fail
            exact ⟨⟨j + 1, vi (by push_cast; omega), by omega, HAG2.out, by first | exact ⟨_, rfl⟩ | exact ⟨_, by rw [World.drewN_drewN]⟩ | trivial⟩, by simp only [intOf]; omega⟩
          | false =>
            rw [hm] at hc
            rw [hm2] at hc2
            have HNE := hide (show m ≠ m2 from fun e => by rw [e, hm2] at hm; cases hm)
            clear hm hm2
            go_wp2_with fail
            go_quiet (fail)
            go_wp2_with fail
            go_ret
            exact ⟨by rw [show b = false from by cases b; rfl; exact absurd (HBB.out.1 rfl).2 HNE.out]; rfl, below_drewN (below_drewN HB.out _) _⟩
        | false =>
          cases hm2 : m2 j with
          | true =>
            rw [hm] at hc
            rw [hm2] at hc2
            have HNE := hide (show m ≠ m2 from fun e => by rw [e, hm2] at hm; cases hm)
            clear hm hm2
            go_wp2_with fail
            go_quiet (fail)
            go_wp2_with fail
            go_ret
            exact ⟨by rw [show b = false from by cases b; rfl; exact absurd (HBB.out.1 rfl).2 HNE.out]; rfl, below_drewN (below_drewN HB.out _) _⟩
          | false =>
            rw [hm] at hc
            rw [hm2] at hc2
            have HAG2 := hide (show ∀ i, i < j + 1 → m i = m2 i from fun i hi => by
              by_cases e : i = j
              · rw [e, hm, hm2]
              · exact HAG.out i (by omega))
            clear hm hm2
            go_wp2_with fail
            go_quiet (fail)
            go_wp2_with fail
            exact ⟨⟨j + 1, vi (by push_cast; omega), by omega, HAG2.out, by first | exact ⟨_, rfl⟩ | exact ⟨_, by rw [World.drewN_drewN]⟩ | trivial⟩, by simp only [intOf]; omega⟩
      · have hd1 : ¬ (j : Int) < (n : Int) := by omega
        have HE := hide (show m = m2 from by
          funext i
          by_cases hi : i < j
          · exact HAG.out i hi
          · rw [HO.out i (by omega), HO2.out i (by omega)])
        go_wp2_with fail
        first | go_ret | go_ret2
        exact ⟨by rw [show b = true from HBB.out.2 ⟨by first | rfl | trivial, HE.out⟩]; rfl, below_drewN HB.out _⟩
  · have hne : ¬ (n : Int) = (n2 : Int) := by omega
    have HN := hide hnn
    clear hnn
    go_wp2_with fail
    first | go_ret | go_ret2
    exact ⟨by rw [show b = false from by cases b; rfl; exact absurd (HBB.out.1 rfl).1 HN.out]; rfl, HB.out⟩
end Go.Proofs.YtmkbbekeimnajaaDoor

/-! Nt: the complement -/
namespace Go.Proofs.YtmkbbekeimnajaaDoor
open Go.RowKit Ds
def neg (m : Nat → Bool) (n : Nat) : Nat → Bool := fun i => decide (i < n) && !m i
theorem neg_off (m : Nat → Bool) (n : Nat) : ∀ i, n ≤ i → neg m n i = false := fun i hi => by unfold neg; rw [decide_eq_false (by omega)]; rfl
theorem cnt_neg (m : Nat → Bool) (n : Nat) : cnt (neg m n) n = n - cnt m n := by
  rw [← cnt_inv m n]
  exact cnt_congr fun i hi => by unfold neg inv; rw [decide_eq_true hi]; rfl
theorem xor_word (m : Nat → Bool) (j : Nat) : bits .xor .u64 (if IntKind.u64.signed = true then -1 else IntKind.u64.max) (word m j : Int) = (word (inv m) j : Int) := by
  have hw := word_lt' (inv m) j
  have hx : (BitVec.ofNat 64 18446744073709551615 ^^^ BitVec.ofNat 64 (word m j)).toNat = word (inv m) j := by
    refine num_ext (BitVec.isLt _) fun k hk => ?_
    have h1 : (BitVec.ofNat 64 18446744073709551615).getLsbD k = true := by
      have : (BitVec.ofNat 64 18446744073709551615) = BitVec.allOnes 64 := by decide
      rw [this, BitVec.getLsbD_allOnes]; simp [hk]
    rw [BitVec.testBit_toNat, BitVec.getLsbD_xor, h1, BitVec.getLsbD_ofNat, word_bit]
    unfold inv
    simp [hk]
  show IntKind.u64.wrap ((BitVec.ofInt 64 ((18446744073709551615 : Nat) : Int) ^^^ BitVec.ofInt 64 ((word m j : Nat) : Int)).toNat : Int) = _
  rw [BitVec.ofInt_natCast, BitVec.ofInt_natCast, hx, IntKind.wrap_u64]
  omega
theorem word_cut (m : Nat → Bool) (n : Nat) : word (inv m) (n / 64) &&& (2 ^ (n % 64) - 1) = word (neg m n) (n / 64) := by
  have h := and_low (fun k => inv m (64 * (n / 64) + k)) (n % 64) (by omega)
  unfold word
  rw [h]
  refine num_congr fun k hk => ?_
  unfold neg inv
  by_cases h1 : k < n % 64
  · rw [decide_eq_true h1, decide_eq_true (by omega)]
  · rw [decide_eq_false h1, decide_eq_false (by omega)]
theorem word_neg_low (m : Nat → Bool) (n j : Nat) (h : 64 * (j + 1) ≤ n) : word (neg m n) j = word (inv m) j := num_congr fun k hk => by
  unfold neg inv
  rw [decide_eq_true (by omega)]; rfl
theorem wds_neg_whole (m : Nat → Bool) (n : Nat) (h : n % 64 = 0) : wds (inv m) (nw n) = wds (neg m n) (nw n) :=
  wds_congr fun j hj => (word_neg_low m n j (by unfold nw at hj; omega)).symm
theorem wds_neg_cut (m : Nat → Bool) (n : Nat) : (wds (inv m) (nw n)).set (n / 64) (.int .u64 (word (neg m n) (n / 64) : Nat)) = wds (neg m n) (nw n) := by
  apply List.ext_getElem?
  intro i
  rw [List.getElem?_set]
  by_cases hi : i < nw n
  · rw [wds_get _ hi, wds_get _ hi, wds_len]
    by_cases e : n / 64 = i
    · subst e; simp [hi]
    · rw [if_neg e, word_neg_low m n i (by unfold nw at hi; omega)]
  · rw [List.getElem?_eq_none (by rw [wds_len]; omega), List.getElem?_eq_none (by rw [wds_len]; omega), wds_len]
    split
    · rw [if_neg (by omega)]
    · rfl
set_option maxRecDepth 100000 in
set_option maxHeartbeats 2000000 in
theorem not_any (w : World) {S1 g1 cap1 n : Nat} {m : Nat → Bool} (h1 : SetAt w S1 g1 cap1 n m) :
    Calls Tryd.prog 25 #[.pointer (some ⟨S1, 0, none⟩)] w fun e w' => ∃ S g, e = .returned (.pointer (some ⟨S, 0, none⟩)) ∧ w.heap.size ≤ S ∧ w.heap.size ≤ g ∧ SetAt w' S g (nw n) n (neg m n) ∧ Below w.heap.size w w' := by
  obtain ⟨a0, a1, a2⟩ := cells3 h1.hd
  have hsm := h1.small
  have HS1 := hide h1
  have HEM := hide (empty_any w n hsm)
  clear h1
  go_enter Tryd.func25, Tryd.ntmps25
  go_wp2_with fail
  refine HEM.out.mono ?_
  rintro e w1 ⟨S, g, rfl, hS0, hg0, hs, hb⟩
  have HB1 := hide hb
  have HH1 := hide (show Half w1 S g n 0 (wds (below (inv m) (64 * 0)) (nw n)) from by
    show Half w1 S g n 0 (wds (below (inv m) 0) (nw n))
    rw [wds_below_zero]
    have := Half.of hs
    rw [cnt_none] at this
    exact this)
  obtain ⟨c0, c1, c2⟩ := cells3 hs.hd
  clear hs hb a0 a1 a2
  obtain ⟨k, hk⟩ : ∃ k, nw n = k := ⟨_, rfl⟩
  have hkl : k ≤ 16384 := by rw [← hk]; unfold nw; omega
  rw [hk] at c2
  have HK := hide hk
  clear hk
  go_wp2_with fail
  clear c0 c1 c2
  go_loopw [15] (fun i wr => ∃ j : Nat, i = .int .i64 (j : Nat) ∧ j ≤ k ∧ Half wr S g n 0 (wds (below (inv m) (64 * j)) (nw n)) ∧ Below w.heap.size w wr) (fun i _ => k - (intOf i).toNat)
  case atStart => exact ⟨0, rfl, Nat.zero_le _, HH1.out, HB1.out⟩
  case round =>
    obtain ⟨j, rfl, hj, hh, hb⟩ := hrel
    have HH := hide hh
    have HB := hide hb
    have zr := hb.size
    clear hh hb HH1 HB1
    have hs1 := HS1.out.keep (HB.out.mono (Nat.le_refl _))
    obtain ⟨a0, a1, a2⟩ := cells3 hs1.hd
    obtain ⟨c0, c1, c2⟩ := cells3 HH.out.hd
    by_cases hlt : j < k
    · have hji : (j : Int) < (k : Int) := by omega
      have hjn : j < nw n := by rw [HK.out]; exact hlt
      have aw := hs1.cell hjn
      have hcell := HH.out.cell (wds_get (below (inv m) (64 * j)) hjn)
      have hc0 := hcell.1
      have hf0 := hcell.2
      have hx := xor_word m j
      have HW := hide (show Half ((wr.setCell ⟨g, j, none⟩ (.int .u64 (word (inv m) j : Nat))).drew) S g n 0 (wds (below (inv m) (64 * (j + 1))) (nw n)) from by
        rw [← wds_below]
        exact (HH.out.word j _).keep (below_drewN (Below.refl _ _) 1))
      have HB2 := hide (show Below w.heap.size w ((wr.setCell ⟨g, j, none⟩ (.int .u64 (word (inv m) j : Nat))).drew) from below_drewN (below_set HB.out hg0 _) 1)
      have hcap1 := hs1.cap
      rw [HK.out] at a2 c2 hcap1
      clear hs1 hcell
      go_wp2_with fail
      refine wp_region_still_tail 14 (by kernel_rfl) (by kernel_rfl) ?_
      simp only [List.take_succ_cons, List.take_zero, List.drop_succ_cons, List.drop_zero]
      repeat still_step
      refine wpStill_nil ?_
      go_wp2_with fail
      exact ⟨⟨j + 1, vi (by omega), by omega, HW.out, HB2.out⟩, by simp only [intOf]; omega⟩
    · obtain rfl : k = j := by omega
      have HFULL := hide (show Half wr S g n 0 (wds (inv m) (nw n)) from by
        have h := HH.out
        rw [← HK.out] at h
        rw [wds_below_all] at h
        exact h)
      have hcn := cnt_le m n
      have hng := cnt_neg m n
      have HNG := hide (show ((cnt (neg m n) n : Nat) : Int) = (n : Int) - (cnt m n : Int) by omega)
      rw [HK.out] at a2 c2
      clear hs1 hng
      by_cases hr : n % 64 = 0
      · have hri : (n : Int) % 64 = 0 := by omega
        have hcnt : IntKind.i64.wrap ((n : Int) - (cnt m n : Int)) = ((cnt (neg m n) n : Nat) : Int) := by have := HNG.out; rw [IntKind.wrap_i64]; omega
        have hfc := free_at HFULL.out.hd 1
        have HFIN := hide (show SetAt ((wr.setCell ⟨S, 1, none⟩ (.int .i64 (cnt (neg m n) n : Nat))).drew) S g (nw n) n (neg m n) from
          (((by rw [← wds_neg_whole m n hr]; exact HFULL.out : Half wr S g n 0 (wds (neg m n) (nw n))).count _).keep (below_drewN (Below.refl _ _) 1)).set hsm (neg_off m n))
        have HBF := hide (show Below w.heap.size w ((wr.setCell ⟨S, 1, none⟩ (.int .i64 (cnt (neg m n) n : Nat))).drew) from below_drewN (below_set HB.out hS0 _) 1)
        clear hr
        go_wp2_with fail
        refine wp_region_still_tail 12 (by kernel_rfl) (by kernel_rfl) ?_
        simp only [List.take_succ_cons, List.take_zero, List.drop_succ_cons, List.drop_zero]
        repeat still_step
        refine wpStill_nil ?_
        go_wp2_with fail
        go_ret
        exact ⟨S, g, rfl, hS0, hg0, HFIN.out, HBF.out⟩
      · have hri : ((n : Int) % 64 == 0) = false := by simp; omega
        obtain ⟨r, hrr⟩ : ∃ r, n % 64 = r := ⟨_, rfl⟩
        obtain ⟨q, hqq⟩ : ∃ q, n / 64 = q := ⟨_, rfl⟩
        have hkq : k = q + 1 := by rw [← HK.out]; unfold nw; omega
        have hr64 : r < 64 := by omega
        have hqn : q < nw n := by rw [HK.out]; omega
        have hcell := HFULL.out.cell (wds_get (inv m) hqn)
        have hc0 := hcell.1
        have hf0 := hcell.2
        have hmask : bits .and .u64 (word (inv m) q : Int) (IntKind.u64.wrap (IntKind.u64.wrap (2 ^ r) - 1)) = (word (neg m n) q : Int) := by
          have h := word_cut m n
          rw [hrr, hqq] at h
          rw [← h]
          exact low_mask _ _ (word_lt' _ _) hr64
        have hrem : (n : Int).tmod 64 = (r : Int) := by rw [Int.tmod_eq_emod_of_nonneg (by omega)]; omega
        have hrem2 : (n : Int) % 64 = (r : Int) := by omega
        have hri2 : ((r : Int) == 0) = false := by simp; omega
        have hr0 : ¬ r = 0 := by omega
        have hkw : IntKind.i64.wrap ((k : Int) - 1) = (q : Int) := by rw [IntKind.wrap_i64]; omega
        have hkw2 : IntKind.i64.wrap (q : Int) = (q : Int) := by rw [IntKind.wrap_i64]; omega
        have hkw3 : (k : Int) - 1 = (q : Int) := by omega
        have HW := hide (show Half ((wr.setCell ⟨g, q, none⟩ (.int .u64 (word (neg m n) q : Nat))).drew) S g n 0 (wds (neg m n) (nw n)) from by
          have h := wds_neg_cut m n
          rw [hqq] at h
          rw [← h]
          exact (HFULL.out.word q _).keep (below_drewN (Below.refl _ _) 1))
        have HB2 := hide (show Below w.heap.size w ((wr.setCell ⟨g, q, none⟩ (.int .u64 (word (neg m n) q : Nat))).drew) from below_drewN (below_set HB.out hg0 _) 1)
        have hqk : (q : Int) < (k : Int) := by omega
        have hk1 : 1 ≤ k := by omega
        clear hr hri hrr hqq hkq hcell
        go_wp2_with fail
        refine wp_region_still_tail 21 (by kernel_rfl) (by kernel_rfl) ?_
        simp only [List.take_succ_cons, List.take_zero, List.drop_succ_cons, List.drop_zero]
        repeat still_step
        refine wpStill_nil ?_
        go_upto_region 9 with (fail)
        generalize hX : (wr.setCell ⟨g, q, none⟩ (.int .u64 (word (neg m n) q : Nat))).drew = W
        rw [hX] at HW HB2
        have hs2 := HS1.out.keep (HB2.out.mono (Nat.le_refl _))
        clear hX a0 a1 a2 c0 c1 c2 hc0 hf0 hmask hrem hrem2 hri2 hr0 hkw hkw2 hkw3
        obtain ⟨a0, a1, a2⟩ := cells3 hs2.hd
        obtain ⟨c0, c1, c2⟩ := cells3 HW.out.hd
        have hcnt : IntKind.i64.wrap ((n : Int) - (cnt m n : Int)) = ((cnt (neg m n) n : Nat) : Int) := by have := HNG.out; rw [IntKind.wrap_i64]; omega
        have hfc := free_at HW.out.hd 1
        have HFIN := hide (show SetAt ((W.setCell ⟨S, 1, none⟩ (.int .i64 (cnt (neg m n) n : Nat))).drew) S g (nw n) n (neg m n) from
          ((HW.out.count _).keep (below_drewN (Below.refl _ _) 1)).set hsm (neg_off m n))
        have HBF := hide (show Below w.heap.size w ((W.setCell ⟨S, 1, none⟩ (.int .i64 (cnt (neg m n) n : Nat))).drew) from below_drewN (below_set HB2.out hS0 _) 1)
        clear hs2
        refine wp_region_still_tail 12 (by kernel_rfl) (by kernel_rfl) ?_
        simp only [List.take_succ_cons, List.take_zero, List.drop_succ_cons, List.drop_zero]
        repeat still_step
        refine wpStill_nil ?_
        go_wp2_with fail
        go_ret
        exact ⟨S, g, rfl, hS0, hg0, HFIN.out, HBF.out⟩
end Go.Proofs.YtmkbbekeimnajaaDoor
