/- runs in memory -/
import Derived.Test.YtmkbbekeimnajaaDoorRk
import Derived.Test.YtmkbbekeimnajaaDoorMb
import Derived.Test.YtmkbbekeimnajaaDoorRs
namespace Go.Proofs.YtmkbbekeimnajaaDoor
open Go.RowKit Ds
theorem info43 : (Tryd.prog.info? 43).map (fun i => (i.zero, i.size, i.bytes)) = some (some (.agg #[.int .i64 0, .int .i64 0]), 2, 16) := by kernel_rfl
def runCells (l : List (Nat × Nat)) : List Value := l.flatMap fun p => [.int .i64 (p.1 : Nat), .int .i64 (p.2 : Nat)]
theorem runCells_len (l : List (Nat × Nat)) : (runCells l).length = l.length * 2 := by
  induction l with
  | nil => rfl
  | cons p r ih => simp only [runCells, List.flatMap_cons, List.length_append, List.length_cons, List.length_nil] at ih ⊢; omega
theorem runCells_app (l k : List (Nat × Nat)) : runCells (l ++ k) = runCells l ++ runCells k := by simp [runCells]
theorem runCells_one (l : List (Nat × Nat)) : ∀ u ∈ runCells l, u.oneCell' = true := by
  intro u hu
  simp only [runCells, List.mem_flatMap] at hu
  obtain ⟨p, _, hp⟩ := hu
  simp only [List.mem_cons, List.not_mem_nil, or_false] at hp
  rcases hp with rfl | rfl <;> rfl
theorem runCells_last (q : List (Nat × Nat)) (p : Nat × Nat) : (runCells (q ++ [p]))[q.length * 2]? = some (.int .i64 (p.1 : Nat)) ∧ (runCells (q ++ [p]))[q.length * 2 + 1]? = some (.int .i64 (p.2 : Nat)) := by
  rw [runCells_app]
  have h := runCells_len q
  constructor
  · rw [List.getElem?_append_right (by omega), h, Nat.sub_self]; rfl
  · rw [List.getElem?_append_right (by omega), h, show q.length * 2 + 1 - q.length * 2 = 1 by omega]; rfl
theorem runCells_set (q : List (Nat × Nat)) (p : Nat × Nat) (x : Nat) : (runCells (q ++ [p])).set (q.length * 2 + 1) (.int .i64 (x : Nat)) = runCells (q ++ [(p.1, x)]) := by
  rw [runCells_app, runCells_app]
  have h := runCells_len q
  rw [List.set_append_right _ _ (by omega), h, show q.length * 2 + 1 - q.length * 2 = 1 by omega]
  rfl
/-- a cell of a row is written -/
theorem row_put {w : World} {B e s g n cap : Nat} {xs : List Value} (h : w.ownsRow B e s (.slice (some ⟨g, 0, none⟩) n cap) n xs) (j : Nat) (x : Value) :
    (w.setCell ⟨g, j, none⟩ x).ownsRow B e s (.slice (some ⟨g, 0, none⟩) n cap) n (xs.set j x) := by
  obtain ⟨hl, ⟨hv, _⟩ | ⟨g', cap', cur, hv, h1, h2, h3, h4, h5, h6⟩⟩ := h
  · cases hv
  · simp only [Value.slice.injEq, Option.some.injEq, Addr.mk.injEq, true_and, and_true] at hv
    obtain ⟨rfl, rfl⟩ := hv
    refine ⟨by rw [List.length_set]; exact hl, .inr ⟨g, cap, cur.setIfInBounds j x, rfl, h1, heap_set h2 x, h3, h4, by rw [Array.size_setIfInBounds]; exact h5, ?_⟩⟩
    rw [Array.toList_setIfInBounds, List.take_set, h6]
theorem row_cell {w : World} {B e s g n cap : Nat} {xs : List Value} (h : w.ownsRow B e s (.slice (some ⟨g, 0, none⟩) n cap) n xs) {j : Nat} {x : Value} (hx : xs[j]? = some x) :
    w.cell? ⟨g, j, none⟩ = some x ∧ w.frozen? ⟨g, j, none⟩ = false := by
  obtain ⟨hl, ⟨hv, _⟩ | ⟨g', cap', cur, hv, h1, h2, h3, h4, h5, h6⟩⟩ := h
  · cases hv
  · simp only [Value.slice.injEq, Option.some.injEq, Addr.mk.injEq, true_and, and_true] at hv
    obtain ⟨rfl, rfl⟩ := hv
    refine ⟨?_, free_at h2 _⟩
    have hj := (List.getElem?_eq_some_iff.1 hx).1
    rw [cell_at h2]
    rw [← h6, List.getElem?_take, if_pos (by omega)] at hx
    simpa using hx
theorem row_at {w : World} {B e s n : Nat} {v : Value} {xs : List Value} (h : w.ownsRow B e s v n xs) (hn : 0 < n) : ∃ g cap, v = .slice (some ⟨g, 0, none⟩) n cap ∧ n ≤ cap ∧ cap ≤ 9223372036854775807 ∧ B ≤ g := by
  obtain ⟨hl, ⟨hv, h0⟩ | ⟨g', cap', cur, hv, h1, h2, h3, h4, h5, h6⟩⟩ := h
  · omega
  · exact ⟨g', cap', hv, h3, h4, h1⟩
theorem srcc_run {w : World} {Y i : Nat} (h : w.heap[Y]? = some (.cells #[.int .i64 (i : Nat), .int .i64 (i : Nat)] 43 (0, 0))) : SrcC w (.slice (some ⟨Y, 0, none⟩) 1 1) 1 2 (runCells [(i, i)]) :=
  ⟨rfl, .inr ⟨⟨Y, 0, none⟩, 1, rfl, fun j u hj => by
    have e : w.cell? ((⟨Y, 0, none⟩ : Addr).add j) = w.cell? ⟨Y, j, none⟩ := by rw [Addr.add_lit, Nat.zero_add]
    rw [e, cell_at h]
    simpa [runCells] using hj⟩⟩
set_option maxRecDepth 100000 in
set_option maxHeartbeats 2000000 in
theorem runs_any (w : World) {S g cap n : Nat} {m : Nat → Bool} (h : SetAt w S g cap n m) (hT : DeBr w) (hg : 15 < w.heap.size) :
    Calls Tryd.prog 22 #[.pointer (some ⟨S, 0, none⟩)] w fun e w' => ∃ v, e = .returned v ∧ w'.ownsRow w.heap.size 43 2 v (runs (Ds.mem m n)).length (runCells (runs (Ds.mem m n))) ∧ Below w.heap.size w w' := by
  have hsm := h.small
  have hcn : cnt m n ≤ n := cnt_le m n
  obtain ⟨i0, hi, hz0, hz1, hz2⟩ := info_parts info43
  have HM := hide (members_any w h hT hg)
  obtain ⟨ms, hms⟩ : ∃ ms, Ds.mem m n = ms := ⟨_, rfl⟩
  have hml : ms.length = cnt m n := by rw [← hms]; rfl
  obtain ⟨c, hc⟩ : ∃ c, cnt m n = c := ⟨_, rfl⟩
  unfold mI at HM
  rw [hms, hc] at HM
  rw [hms]
  rw [hc] at hml hcn
  have HML := hide hml
  have HLT := hide (show ∀ x ∈ ms, x < n from fun x hx => mem_lt (by rw [hms]; exact hx))
  clear h hT hms hc hml
  go_enter Tryd.func22, Tryd.ntmps22
  go_wp2_with fail
  refine HM.out.mono ?_
  rintro e w1 ⟨v1, rfl, ho1, hb1⟩
  have HO1 := hide ho1
  have HB1 := hide hb1
  obtain ⟨a1, k1, rfl⟩ := row_shape ho1
  have hs1 := hb1.size
  clear ho1 hb1 HM
  go_wp2_with fail
  go_loopw [3, 10] (fun v j wr => ∃ k : Nat, j = .int .i64 (k : Nat) ∧ k ≤ c ∧ wr.ownsRow w.heap.size 43 2 v (runs (ms.take k)).length (runCells (runs (ms.take k))) ∧ KeepTy w1 wr 3 ∧ Below w.heap.size w wr) (fun _ j _ => c - (intOf j).toNat)
  case atStart => exact ⟨0, rfl, Nat.zero_le _, World.ownsRow_nil _ _ _ _, fun _ _ _ h => h, HB1.out⟩
  case round =>
    obtain ⟨k, rfl, hk, hown, hkt, hb⟩ := hrel
    have HOW := hide hown
    have HKT := hide hkt
    have HBr := hide hb
    have hsr := hb.size
    obtain ⟨vo, vc, rfl⟩ := row_shape hown
    clear hown hkt hb
    by_cases hlt : k < c
    · obtain ⟨x, hx⟩ : ∃ x, ms[k]? = some x := ⟨_, List.getElem?_eq_getElem (by rw [HML.out]; exact hlt)⟩
      have htk : ms.take (k + 1) = ms.take k ++ [x] := by rw [List.take_add_one, hx]; rfl
      have HTK := hide htk
      obtain ⟨g1, cp1, hv1, hl1, hl2, _⟩ := row_at HO1.out (by omega)
      simp only [Value.slice.injEq, true_and] at hv1
      obtain ⟨rfl, rfl⟩ := hv1
      have hcx := (row_cell (row_keepTy HO1.out HKT.out) (j := k) (x := .int .i64 (x : Nat)) (by simp [intCells, hx])).1
      have hki : (k : Int) < (c : Int) := by omega
      obtain ⟨L, hL⟩ : ∃ L, runs (ms.take k) = L := ⟨_, rfl⟩
      have hLl : L.length ≤ k := by rw [← hL]; have := runs_len _ (ms.take k) rfl; have h2 := List.length_take_le k ms; omega
      rw [hL] at HOW ⊢
      have HL := hide hL
      obtain ⟨l, hll⟩ : ∃ l, L.length = l := ⟨_, rfl⟩
      rw [hll] at HOW hLl ⊢
      have HLL := hide hll
      have hx' := hx
      clear hx htk hL hll
      have hxn : x < n := HLT.out x (List.mem_of_getElem? hx')
      clear hx'
      have hwx : IntKind.i64.wrap ((x : Int) - 1) = (x : Int) - 1 := by rw [IntKind.wrap_i64]; omega
      by_cases hB : ∃ p, L.getLast? = some p ∧ p.2 + 1 = x
      · obtain ⟨p, hp, hpx⟩ := hB
        have hLs := snoc_of_last hp
        obtain ⟨Q, hQ⟩ : ∃ Q, L.dropLast = Q := ⟨_, rfl⟩
        rw [hQ] at hLs
        have hlq : l = Q.length + 1 := by rw [← HLL.out, hLs]; simp
        have hrn : runs (ms.take (k + 1)) = Q ++ [(p.1, x)] := by rw [HTK.out, runs_snoc, HL.out, rnStep, hp]; dsimp only; rw [if_pos hpx, hQ]
        obtain ⟨hc0, hc1⟩ := runCells_last Q p
        rw [hLs] at HOW
        obtain ⟨g2, cp2, hv2, hl3, hl4, hg2⟩ := row_at HOW.out (by omega)
        simp only [Value.slice.injEq, true_and] at hv2
        obtain ⟨rfl, rfl⟩ := hv2
        obtain ⟨q, hq⟩ : ∃ q, Q.length = q := ⟨_, rfl⟩
        rw [hq] at hc0 hc1 hlq
        subst hlq
        have hcp := row_cell HOW.out hc1
        have hcell := hcp.1
        have hfree := hcp.2
        have hput := row_put HOW.out (q * 2 + 1) (.int .i64 (x : Nat))
        rw [← hq, runCells_set, hq] at hput
        have HP := hide (show (wr.setCell ⟨g2, q * 2 + 1, none⟩ (.int .i64 (x : Nat))).ownsRow w.heap.size 43 2 (.slice (some ⟨g2, 0, none⟩) (q + 1) vc) (runs (ms.take (k + 1))).length (runCells (runs (ms.take (k + 1)))) from by
          rw [hrn, List.length_append, hq]; exact hput)
        have HK2 := hide (show KeepTy w1 (wr.setCell ⟨g2, q * 2 + 1, none⟩ (.int .i64 (x : Nat))) 3 from by
          obtain ⟨_, ⟨hv, _⟩ | ⟨g', cap', cur, hv, _, hh, _⟩⟩ := HOW.out
          · cases hv
          · simp only [Value.slice.injEq, Option.some.injEq, Addr.mk.injEq, true_and, and_true] at hv
            obtain ⟨rfl, rfl⟩ := hv
            exact HKT.out.trans (keepTy_at hh (by decide) _))
        have HB2 := hide (below_set (i := q * 2 + 1) HBr.out hg2 (.int .i64 (x : Nat)))
        have hpe : ((p.2 : Nat) : Int) = (x : Int) - 1 := by omega
        have hpe2 : (((p.2 : Nat) : Int) == (x : Int) - 1) = true := by simp; omega
        have hwq : IntKind.i64.wrap (((q + 1 : Nat) : Int) - 1) = (q : Int) := by rw [IntKind.wrap_i64]; omega
        have hq2 : q ≤ 1048576 := by omega
        clear hp hpx hLs hQ hrn hc0 hc1 hq hcp hput hpe
        go_wp2_with fail
        exact ⟨⟨k + 1, vi (by omega), by omega, HP.out, HK2.out, HB2.out⟩, by simp only [intOf]; omega⟩
      · have hrn : runs (ms.take (k + 1)) = L ++ [(x, x)] := by
          rw [HTK.out, runs_snoc, HL.out, rnStep]
          cases hp : L.getLast? with
          | none => rw [List.getLast?_eq_none_iff.1 hp]; rfl
          | some p => dsimp only; rw [if_neg (fun e => hB ⟨p, hp, e⟩)]
        obtain ⟨v6, w6, r1, r2, r3, r4⟩ := run_row (wr.alloc (.cells #[.int .i64 (x : Nat), .int .i64 (x : Nat)] 43)) w.heap.size 41 41 43 i0 _ 2 16 Tryd.underlying41 hi hz0 hz1 hz2 rfl (by decide) (.slice vo l vc) (.slice (some ⟨wr.heap.size, 0, none⟩) 1 1) l 1 (runCells L) (runCells [(x, x)]) (World.ownsRow.alloc HOW.out _) (srcc_run (heap_new rfl _)) (runCells_one _) (by simp only [maxLen]; omega) (by omega) (by rw [World.size_alloc]; omega)
        obtain ⟨vo6, vc6, rfl⟩ := row_shape r2
        have HR6 := hide r1
        have HB6 := hide (show Below w.heap.size w w6 from (HBr.out.alloc hsr _).grown r3 (by rw [World.size_alloc]; omega) (fun j hj => (World.ownsRow.lt HOW.out j hj).1))
        have HO6 := hide (show w6.ownsRow w.heap.size 43 2 (.slice vo6 (l + 1) vc6) (runs (ms.take (k + 1))).length (runCells (runs (ms.take (k + 1)))) from by
          rw [hrn, runCells_app, List.length_append, HLL.out]; exact r2)
        have HK6 := hide (show KeepTy w1 w6 3 from (HKT.out.trans (keepTy_below ((Below.refl wr.heap.size wr).alloc (Nat.le_refl _) _) 3)).trans (keepTy_grown r3 (notTy_row (World.ownsRow.alloc HOW.out _) (by decide))))
        clear r1 r2 r3 r4 hrn
        by_cases hl0 : l = 0
        · subst hl0
          clear hB
          go_wp2_with (at_builtin; refine wpList_run 41 _ w6 _ _ _ rfl (.tmp 35) (.tmp 39) rfl rfl rfl HR6.out ?_)
          go_wp2_with fail
          exact ⟨⟨k + 1, vi (by omega), by omega, HO6.out, HK6.out, HB6.out⟩, by simp only [intOf]; omega⟩
        · obtain ⟨p, hp⟩ : ∃ p, L.getLast? = some p := by
            cases hp : L.getLast? with
            | none => rw [List.getLast?_eq_none_iff.1 hp] at HLL; exact absurd HLL.out.symm hl0
            | some p => exact ⟨p, rfl⟩
          have hpx : p.2 + 1 ≠ x := fun e => hB ⟨p, hp, e⟩
          have hLs := snoc_of_last hp
          obtain ⟨Q, hQ⟩ : ∃ Q, L.dropLast = Q := ⟨_, rfl⟩
          rw [hQ] at hLs
          have hlq : l = Q.length + 1 := by rw [← HLL.out, hLs]; simp
          obtain ⟨hc0, hc1⟩ := runCells_last Q p
          have hown := HOW.out
          rw [hLs] at hown
          obtain ⟨g2, cp2, hv2, hl3, hl4, hg2⟩ := row_at HOW.out (by omega)
          simp only [Value.slice.injEq, true_and] at hv2
          obtain ⟨rfl, rfl⟩ := hv2
          obtain ⟨q, hq⟩ : ∃ q, Q.length = q := ⟨_, rfl⟩
          rw [hq] at hc0 hc1 hlq
          subst hlq
          have hcell := (row_cell hown hc1).1
          have hpe2 : (((p.2 : Nat) : Int) == (x : Int) - 1) = false := by simp; omega
          have hwq : IntKind.i64.wrap (((q + 1 : Nat) : Int) - 1) = (q : Int) := by rw [IntKind.wrap_i64]; omega
          clear hp hpx hLs hQ hc0 hc1 hq hown hB hl0
          go_wp2_with (at_builtin; refine wpList_run 41 _ w6 _ _ _ rfl (.tmp 35) (.tmp 39) rfl rfl rfl HR6.out ?_)
          go_wp2_with fail
          exact ⟨⟨k + 1, vi (by omega), by omega, HO6.out, HK6.out, HB6.out⟩, by simp only [intOf]; omega⟩
    · obtain rfl : k = c := by omega
      have HE := hide (show ms.take k = ms from List.take_of_length_le (by rw [HML.out]; exact Nat.le_refl _))
      go_wp2_with fail
      go_ret
      refine ⟨_, rfl, ?_, HBr.out⟩
      have := HOW.out
      rw [HE.out] at this ⊢
      exact this
end Go.Proofs.YtmkbbekeimnajaaDoor
