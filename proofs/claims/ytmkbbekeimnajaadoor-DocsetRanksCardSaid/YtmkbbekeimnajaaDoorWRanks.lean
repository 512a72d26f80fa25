/- the walk of DocsetRanks -/
import Derived.Test.YtmkbbekeimnajaaDoorRu
import Derived.Test.YtmkbbekeimnajaaDoorFx
namespace Go.Proofs.YtmkbbekeimnajaaDoor
open Go.RowKit Ds
/-- what stays: the set, the table -/
structure Env (w wr : World) (S g cap N : Nat) (m : Nat → Bool) : Prop where
  set : SetAt wr S g cap N m
  tab : DeBr wr
  below : Below w.heap.size w wr
theorem Env.keep {w wr w' : World} {S g cap N : Nat} {m : Nat → Bool} (h : Env w wr S g cap N m) (hb : Below wr.heap.size wr w') (h15 : 15 < w.heap.size) : Env w w' S g cap N m :=
  ⟨h.set.keep hb, debr_below h.tab (hb.mono h.below.size) h15, h.below.trans (hb.mono h.below.size)⟩
theorem Env.drew {w wr : World} {S g cap N : Nat} {m : Nat → Bool} (h : Env w wr S g cap N m) (q : Nat) : Env w (wr.drewN q) S g cap N m :=
  ⟨h.set.keep (below_drewN (Below.refl _ _) q), h.tab, below_drewN h.below q⟩
theorem ints_drew {w : World} {v : Value} {zs : List Int} (h : Ints w v zs) (q : Nat) : Ints (w.drewN q) v zs := ints_keep h (below_drewN (Below.refl _ _) q)
theorem size43 : (Tryd.prog.info? 43).map (·.size) = some 2 := by kernel_rfl
theorem runCells_get : ∀ (L : List (Nat × Nat)) (k : Nat) (p : Nat × Nat), L[k]? = some p → (runCells L)[k * 2]? = some (.int .i64 (p.1 : Nat)) ∧ (runCells L)[k * 2 + 1]? = some (.int .i64 (p.2 : Nat))
  | [], _, _, h => by simp at h
  | q :: r, 0, p, h => by simp at h; subst h; exact ⟨rfl, rfl⟩
  | q :: r, k + 1, p, h => by
    have := runCells_get r k p (by simpa using h)
    rw [show (k + 1) * 2 = k * 2 + 2 by omega, show k * 2 + 2 + 1 = (k * 2 + 1) + 2 by omega]
    exact this
def flatI (l : List Nat) : List Int := l.map Int.ofNat
theorem flatI_app (l k : List Nat) : flatI (l ++ k) = flatI l ++ flatI k := by simp [flatI]
theorem flatI_len (l : List Nat) : (flatI l).length = l.length := by simp [flatI]
theorem intCells_app (l k : List Int) : intCells (l ++ k) = intCells l ++ intCells k := by simp [intCells]
theorem cnt_next (m : Nat → Bool) (j : Nat) : cnt m (j + 1) = cnt m j + if m j then 1 else 0 := cnt_succ m j
theorem cnt_step_neg (m : Nat → Bool) (i : Int) (hi : i < 0) : cnt m (i + 1).toNat = cnt m i.toNat := by
  rw [show (i + 1).toNat = 0 by omega, show i.toNat = 0 by omega]
theorem has_no (w : World) {S g cap n : Nat} {m : Nat → Bool} (h : SetAt w S g cap n m) (i : Int) (hi : ¬ (0 ≤ i ∧ m i.toNat = true)) :
    Calls Tryd.prog 20 #[.pointer (some ⟨S, 0, none⟩), .int .i64 i] w fun e w' => e = .returned (.bool false) ∧ w = w' := by
  by_cases h1 : i < 0 ∨ n ≤ i
  · exact has_out w h i h1
  · obtain ⟨j, rfl⟩ := Int.eq_ofNat_of_zero_le (show 0 ≤ i by omega)
    have hj : m j = false := by
      cases hm : m j with
      | false => rfl
      | true => exact absurd ⟨by omega, by rw [Int.toNat_natCast]; exact hm⟩ hi
    have := has_in w h j (by omega)
    rw [hj] at this
    exact this
theorem cnt_bd {m : Nat → Bool} {n : Nat} (h : ∀ i, n ≤ i → m i = false) (k : Nat) : cnt m k ≤ n := by
  by_cases hk : n ≤ k
  · rw [cnt_off h hk]; exact cnt_le m n
  · have := cnt_le m k; omega
theorem cnt_no {m : Nat → Bool} {i : Int} (h : ¬ (0 ≤ i ∧ m i.toNat = true)) : cnt m (i + 1).toNat = cnt m i.toNat := by
  by_cases h0 : 0 ≤ i
  · rw [show (i + 1).toNat = i.toNat + 1 by omega, cnt_succ]
    cases hm : m i.toNat with
    | false => simp
    | true => exact absurd ⟨h0, hm⟩ h
  · rw [show (i + 1).toNat = 0 by omega, show i.toNat = 0 by omega]
theorem next_is (w : World) {S g cap n : Nat} {m : Nat → Bool} (h : SetAt w S g cap n m) (hT : DeBr w) (i : Int) :
    (∀ x, (Ds.mem m n)[cnt m i.toNat]? = some x → Calls Tryd.prog 21 #[.pointer (some ⟨S, 0, none⟩), .int .i64 i] w fun e w' => e = .returned (.tuple #[.int .i64 (x : Nat), .bool true]) ∧ w = w') ∧
    ((Ds.mem m n)[cnt m i.toNat]? = none → Calls Tryd.prog 21 #[.pointer (some ⟨S, 0, none⟩), .int .i64 i] w fun e w' => e = .returned (.tuple #[.int .i64 0, .bool false]) ∧ w = w') := by
  have hn := next_any w h hT i
  constructor
  · intro x hx
    refine hn.mono fun e w' ⟨he, hw⟩ => ⟨?_, hw⟩
    unfold NextOut at he
    rw [next_eq, hx] at he
    exact he
  · intro hx
    refine hn.mono fun e w' ⟨he, hw⟩ => ⟨?_, hw⟩
    unfold NextOut at he
    rw [next_eq, hx] at he
    exact he
theorem select_is (w : World) {S g cap n : Nat} {m : Nat → Bool} (h : SetAt w S g cap n m) (hT : DeBr w) (k : Nat) :
    (∀ x, (Ds.mem m n)[k]? = some x → Calls Tryd.prog 19 #[.pointer (some ⟨S, 0, none⟩), .int .i64 (k : Nat)] w fun e w' => e = .returned (.tuple #[.int .i64 (x : Nat), .bool true]) ∧ w = w') ∧
    ((Ds.mem m n)[k]? = none → Calls Tryd.prog 19 #[.pointer (some ⟨S, 0, none⟩), .int .i64 (k : Nat)] w fun e w' => e = .returned (.tuple #[.int .i64 0, .bool false]) ∧ w = w') := by
  have hn := select_any w h hT (k : Int)
  have h0 : ¬ (k : Int) < 0 := by omega
  constructor
  · intro x hx
    refine hn.mono fun e w' ⟨he, hw⟩ => ⟨?_, hw⟩
    unfold SelOut at he
    rw [if_neg h0, Int.toNat_natCast, hx] at he
    exact he
  · intro hx
    refine hn.mono fun e w' ⟨he, hw⟩ => ⟨?_, hw⟩
    unfold SelOut at he
    rw [if_neg h0, Int.toNat_natCast, hx] at he
    exact he
set_option maxRecDepth 100000 in
set_option maxHeartbeats 8000000 in
theorem ranks_walk (w : World) (T : DeBr w) (E : Nat → Addr) (hE : Errs w E allErrs) (hg : 25 ≤ w.heap.size) (n : Int) (ao1 : Option Addr) (k1 : Nat) (zs : List Int) (h1 : Ints w (.slice ao1 zs.length k1) zs) (hl1 : zs.length ≤ 1152921504606846976)
    (ao2 : Option Addr) (k2 : Nat) (ys : List Int) (h2 : Ints w (.slice ao2 ys.length k2) ys) (hl2 : ys.length ≤ 1152921504606846976) :
    Calls Tryd.prog 4 #[.int .i64 n, .slice ao1 zs.length k1, .slice ao2 ys.length k2] w fun e w' => e = .returned (.bool true) ∧ Below w.heap.size w w' := by
  have HT := hide T
  have HE := hide hE
  have H1 := hide h1
  have H2 := hide h2
  clear T hE h1 h2
  go_enter Tryd.func4, Tryd.ntmps4
  go_wp2_with fail
  refine (fixed_any w E HE.out HT.out hg).mono ?_
  rintro e w1 ⟨rfl, hb1⟩
  have HB1 := hide hb1
  have HT1 := hide (debr_below HT.out hb1 (by omega))
  have HZ1 := hide (ints_keep H1.out hb1)
  have z1 := hb1.size
  clear hb1
  go_wp2_with fail
  refine (of_any w1 n ao1 k1 zs HZ1.out hl1 (E 0) (err_below (HE.out.cell 0 (by decide)) HB1.out (by omega)) (by omega)).mono ?_
  rintro e w2 ⟨hof, hb2⟩
  have HB2 := hide (HB1.out.trans (hb2.mono z1))
  have HT2 := hide (debr_below HT1.out hb2 (by omega))
  have z2 := HB2.out.size
  clear hb2
  rcases hof with ⟨N, S, g, cap, rfl, hN, hin, rfl, hS, hgg, hs⟩ | ⟨hno, rfl⟩
  · obtain ⟨m, hm⟩ : ∃ m, mOf zs = m := ⟨_, rfl⟩
    have HIN := hide (show ∀ z ∈ zs, ∃ j : Nat, z = (j : Int) ∧ j < N ∧ m j = true from fun z hz => by
      obtain ⟨a, b⟩ := hin z hz
      refine ⟨z.toNat, by omega, by omega, ?_⟩
      rw [← hm]
      unfold mOf
      rw [decide_eq_true_eq, Int.toNat_of_nonneg a]
      exact hz)
    rw [hm] at hs
    have HV2 := hide (show Env w w2 S g cap N m from ⟨hs, HT2.out, HB2.out⟩)
    clear hs hin hm HT2 HB2 HZ1
    go_wp2_with fail
    refine (members_any w2 HV2.out.set HV2.out.tab (by omega)).mono ?_
    rintro e w3 ⟨v3, rfl, ho3, hb3⟩
    have HV3 := hide (HV2.out.keep hb3 (by omega))
    have z3 := HV3.out.below.size
    obtain ⟨c, hc⟩ : ∃ c, cnt m N = c := ⟨_, rfl⟩
    have hcN := cnt_le m N
    rw [hc] at ho3 hcN
    have hml : (mI m N).length = c := by rw [mI_len, hc]
    obtain ⟨a3, k3, rfl⟩ := row_shape ho3
    have HI3 := hide (show Ints w3 (.slice a3 c k3) (mI m N) from ints_own (by rw [hml]; exact ho3))
    have HML := hide hml
    have HCC := hide hc
    have HC3 := hide (count_any w3 HV3.out.set)
    have HR3 := hide (rank_any w3 HV3.out.set (N : Int))
    rw [Int.toNat_natCast] at HR3
    rw [hc] at HC3 HR3
    clear ho3 hb3 hml hc HV2
    go_wp2_with fail
    refine HC3.out.mono ?_
    rintro e wz ⟨rfl, rfl⟩
    go_wp2_with fail
    refine HR3.out.mono ?_
    rintro e wz ⟨rfl, q4, rfl⟩
    have HV4 := hide (HV3.out.drew q4)
    have HI4 := hide (ints_drew HI3.out q4)
    have z4 := HV4.out.below.size
    clear HC3 HR3 HV3 HI3
    generalize w3.drewN q4 = w4 at *
    go_wp2_with fail
    refine (rank_any w4 HV4.out.set 0).mono ?_
    rintro e wz ⟨rfl, q5, rfl⟩
    rw [show (0 : Int).toNat = 0 from rfl, show cnt m 0 = 0 from rfl]
    have HV5 := hide (HV4.out.drew q5)
    have HI5 := hide (ints_drew HI4.out q5)
    have z5 := HV5.out.below.size
    clear HV4 HI4
    generalize w4.drewN q5 = w5 at *
    go_wp2_with fail
    go_loopw [64] (fun j wr => ∃ k : Nat, j = .int .i64 (k : Nat) ∧ k ≤ c ∧ Env w wr S g cap N m ∧ Ints wr (.slice a3 c k3) (mI m N)) (fun j _ => c - (intOf j).toNat)
    case atStart => exact ⟨0, rfl, Nat.zero_le _, HV5.out, HI5.out⟩
    case round =>
      obtain ⟨k, rfl, hk, hv, hi⟩ := hrel
      have HVr := hide hv
      have HIr := hide hi
      have zr := hv.below.size
      clear hv hi HV5 HI5
      by_cases hlt : k < c
      · obtain ⟨x, hx⟩ : ∃ x, (Ds.mem m N)[k]? = some x := ⟨_, List.getElem?_eq_getElem (by have := HCC.out; unfold cnt at this; omega)⟩
        obtain ⟨hxn, hmx, hcx⟩ := (mem_get m N k x).1 hx
        obtain ⟨ad, rfl, hcell⟩ := ints_get HIr.out (i := k) (x := (x : Int)) (by unfold mI; rw [List.getElem?_map, hx]; rfl)
        have HSE := hide (select_in wr HVr.out.set HVr.out.tab k x hx)
        have HRA := hide (rank_any wr HVr.out.set (x : Int))
        rw [Int.toNat_natCast, hcx] at HRA
        have HHA := hide (fun q => has_in (wr.drewN q) (HVr.out.drew q).set x hxn)
        rw [hmx] at HHA
        have hki : (k : Int) < (c : Int) := by omega
        clear hx hmx hcx
        go_wp2_with fail
        refine HSE.out.mono ?_
        rintro e wz ⟨rfl, rfl⟩
        go_wp2_with fail
        refine HRA.out.mono ?_
        rintro e wz ⟨rfl, q, rfl⟩
        go_wp2_with fail
        refine (HHA.out q).mono ?_
        rintro e wz ⟨rfl, rfl⟩
        clear HHA HRA HSE hcell
        have HVs := hide (HVr.out.drew q)
        have HIs := hide (ints_drew HIr.out q)
        go_wp2_with fail
        exact ⟨⟨k + 1, vi (by omega), by omega, HVs.out, HIs.out⟩, by simp only [intOf]; omega⟩
      · obtain rfl : c = k := by omega
        have HZr := hide (ints_keep H1.out HVr.out.below)
        go_wp2_with fail
        go_loop [98] (fun j => ∃ i : Nat, j = .int .i64 (i : Nat) ∧ i ≤ zs.length) (fun j => zs.length - (intOf j).toNat)
        case atStart => exact ⟨0, rfl, Nat.zero_le _⟩
        case round =>
          obtain ⟨i, rfl, hi⟩ := hrel
          by_cases hlt2 : i < zs.length
          · obtain ⟨z, hz⟩ : ∃ z, zs[i]? = some z := ⟨_, List.getElem?_eq_getElem hlt2⟩
            obtain ⟨j, rfl, hj, hmj⟩ := HIN.out z (List.mem_of_getElem? hz)
            obtain ⟨ad, rfl, hcell⟩ := ints_get HZr.out hz
            have HHA := hide (has_in wr HVr.out.set j hj)
            rw [hmj] at HHA
            have hii : (i : Int) < (zs.length : Int) := by omega
            clear hz hmj
            go_wp2_with fail
            refine HHA.out.mono ?_
            rintro e wz ⟨rfl, rfl⟩
            go_wp2_with fail
            exact ⟨⟨i + 1, vi (by omega), by omega⟩, by simp only [intOf]; omega⟩
          · obtain rfl : i = zs.length := by omega
            go_wp2_with fail
            go_loopw [109] (fun j wr => ∃ t : Nat, j = .int .i64 (t : Nat) ∧ t ≤ ys.length ∧ Env w wr S g cap N m ∧ Ints wr (.slice a3 c k3) (mI m N)) (fun j _ => ys.length - (intOf j).toNat)
            case atStart => exact ⟨0, rfl, Nat.zero_le _, HVr.out, HIr.out⟩
            case round =>
              clear HVr HIr HZr zr
              obtain ⟨t, rfl, ht, hv, hi'⟩ := hrel
              have HVr := hide hv
              have HIr := hide hi'
              have zr := hv.below.size
              clear hv hi'
              by_cases hlt3 : t < ys.length
              · obtain ⟨i, hy⟩ : ∃ i, ys[t]? = some i := ⟨_, List.getElem?_eq_getElem hlt3⟩
                obtain ⟨ad, rfl, hcell⟩ := ints_get (ints_keep H2.out HVr.out.below) hy
                have hti : (t : Int) < (ys.length : Int) := by omega
                clear hy
                by_cases hA : 4611686018427387904 ≤ i
                · go_wp2_with fail
                  exact ⟨⟨t + 1, vi (by omega), by omega, HVr.out, HIr.out⟩, by simp only [intOf]; omega⟩
                by_cases hB : i ≤ -4611686018427387904
                · go_wp2_with fail
                  exact ⟨⟨t + 1, vi (by omega), by omega, HVr.out, HIr.out⟩, by simp only [intOf]; omega⟩
                have hbd := cnt_bd HVr.out.set.off i.toNat
                by_cases hh : 0 ≤ i ∧ m i.toNat = true
                · obtain ⟨hi0, hmi⟩ := hh
                  obtain ⟨j, rfl⟩ := Int.eq_ofNat_of_zero_le hi0
                  rw [Int.toNat_natCast] at hmi hbd
                  have hjN : j < N := by
                    by_cases h : j < N
                    · exact h
                    · have := HVr.out.set.off j (by omega); rw [hmi] at this; cases this
                  obtain ⟨c0, hc0⟩ : ∃ c0, cnt m j = c0 := ⟨_, rfl⟩
                  have hnx : (Ds.mem m N)[c0]? = some j := (mem_get m N c0 j).2 ⟨hjN, hmi, hc0⟩
                  have HHA := hide (has_in wr HVr.out.set j hjN)
                  rw [hmi] at HHA
                  have HR1 := hide (rank_any wr HVr.out.set ((j : Int) + 1))
                  rw [show ((j : Int) + 1).toNat = j + 1 by omega, cnt_succ, hmi, hc0, if_pos rfl, show ((c0 + 1 : Nat) : Int) = (c0 : Int) + 1 by omega] at HR1
                  have HR2 := hide (fun q => rank_any (wr.drewN q) (HVr.out.drew q).set (j : Int))
                  rw [Int.toNat_natCast, hc0] at HR2
                  have HNX := hide (fun q => (next_is (wr.drewN q) (HVr.out.drew q).set HVr.out.tab (j : Int)).1 j (by rw [Int.toNat_natCast, hc0]; exact hnx))
                  have HSE := hide (fun q => (select_is (wr.drewN q) (HVr.out.drew q).set HVr.out.tab c0).1 j hnx)
                  have hsub : IntKind.i64.wrap ((c0 : Int) + 1 - (c0 : Int)) = 1 := by rw [IntKind.wrap_i64]; omega
                  have hc0l : c0 ≤ N := by omega
                  have hwj : IntKind.i64.wrap ((j : Int) + 1) = (j : Int) + 1 := by rw [IntKind.wrap_i64]; omega
                  clear hnx hmi hc0 hbd
                  go_wp2_with fail
                  refine HHA.out.mono ?_
                  rintro e wz ⟨rfl, rfl⟩
                  go_wp2_with fail
                  refine HR1.out.mono ?_
                  rintro e wz ⟨rfl, q1, rfl⟩
                  go_wp2_with fail
                  refine (HR2.out q1).mono ?_
                  rintro e wz ⟨rfl, q2, rfl⟩
                  rw [World.drewN_drewN]
                  go_wp2_with fail
                  refine (HNX.out _).mono ?_
                  rintro e wz ⟨rfl, rfl⟩
                  go_wp2_with fail
                  refine (HR2.out _).mono ?_
                  rintro e wz ⟨rfl, q3, rfl⟩
                  rw [World.drewN_drewN]
                  go_wp2_with fail
                  refine (HSE.out _).mono ?_
                  rintro e wz ⟨rfl, rfl⟩
                  clear HHA HR1 HR2 HNX HSE hcell
                  have HVs := hide (HVr.out.drew (q1 + q2 + q3))
                  have HIs := hide (ints_drew HIr.out (q1 + q2 + q3))
                  go_wp2_with fail
                  exact ⟨⟨t + 1, vi (by omega), by omega, HVs.out, HIs.out⟩, by simp only [intOf]; omega⟩
                · obtain ⟨c0, hc0⟩ : ∃ c0, cnt m i.toNat = c0 := ⟨_, rfl⟩
                  have HHA := hide (has_no wr HVr.out.set i hh)
                  have HR1 := hide (rank_any wr HVr.out.set (i + 1))
                  rw [cnt_no hh, hc0] at HR1
                  have HR2 := hide (fun q => rank_any (wr.drewN q) (HVr.out.drew q).set i)
                  rw [hc0] at HR2
                  have hNX := fun q => next_is (wr.drewN q) (HVr.out.drew q).set HVr.out.tab i
                  have hSE := fun q => select_is (wr.drewN q) (HVr.out.drew q).set HVr.out.tab c0
                  rw [hc0] at hNX hbd
                  have hsub : IntKind.i64.wrap ((c0 : Int) - (c0 : Int)) = 0 := by rw [IntKind.wrap_i64]; omega
                  have hwi : IntKind.i64.wrap (i + 1) = i + 1 := by rw [IntKind.wrap_i64]; omega
                  have HH := hide hh
                  clear hh hc0
                  cases hx : (Ds.mem m N)[c0]? with
                  | none =>
                    have HNX := hide (fun q => (hNX q).2 hx)
                    have HSE := hide (fun q => (hSE q).2 hx)
                    clear hx hNX hSE
                    go_wp2_with fail
                    refine HHA.out.mono ?_
                    rintro e wz ⟨rfl, rfl⟩
                    go_wp2_with fail
                    refine HR1.out.mono ?_
                    rintro e wz ⟨rfl, q1, rfl⟩
                    go_wp2_with fail
                    refine (HR2.out q1).mono ?_
                    rintro e wz ⟨rfl, q2, rfl⟩
                    rw [World.drewN_drewN]
                    go_wp2_with fail
                    refine (HNX.out _).mono ?_
                    rintro e wz ⟨rfl, rfl⟩
                    go_wp2_with fail
                    refine (HR2.out _).mono ?_
                    rintro e wz ⟨rfl, q3, rfl⟩
                    rw [World.drewN_drewN]
                    go_wp2_with fail
                    refine (HSE.out _).mono ?_
                    rintro e wz ⟨rfl, rfl⟩
                    clear HHA HR1 HR2 HNX HSE hcell
                    have HVs := hide (HVr.out.drew (q1 + q2 + q3))
                    have HIs := hide (ints_drew HIr.out (q1 + q2 + q3))
                    go_wp2_with fail
                    exact ⟨⟨t + 1, vi (by omega), by omega, HVs.out, HIs.out⟩, by simp only [intOf]; omega⟩
                  | some x =>
                    have HNX := hide (fun q => (hNX q).1 x hx)
                    have HSE := hide (fun q => (hSE q).1 x hx)
                    have hmx := ((mem_get m N c0 x).1 hx).2.1
                    have hxi : ((x : Int) == i) = false := by
                      simp only [beq_eq_false_iff_ne, ne_eq]
                      rintro rfl
                      exact HH.out ⟨by omega, by rw [Int.toNat_natCast]; exact hmx⟩
                    clear hx hNX hSE hmx
                    go_wp2_with fail
                    refine HHA.out.mono ?_
                    rintro e wz ⟨rfl, rfl⟩
                    go_wp2_with fail
                    refine HR1.out.mono ?_
                    rintro e wz ⟨rfl, q1, rfl⟩
                    go_wp2_with fail
                    refine (HR2.out q1).mono ?_
                    rintro e wz ⟨rfl, q2, rfl⟩
                    rw [World.drewN_drewN]
                    go_wp2_with fail
                    refine (HNX.out _).mono ?_
                    rintro e wz ⟨rfl, rfl⟩
                    go_wp2_with fail
                    refine (HR2.out _).mono ?_
                    rintro e wz ⟨rfl, q3, rfl⟩
                    rw [World.drewN_drewN]
                    go_wp2_with fail
                    refine (HSE.out _).mono ?_
                    rintro e wz ⟨rfl, rfl⟩
                    clear HHA HR1 HR2 HNX HSE hcell
                    have HVs := hide (HVr.out.drew (q1 + q2 + q3))
                    have HIs := hide (ints_drew HIr.out (q1 + q2 + q3))
                    go_wp2_with fail
                    exact ⟨⟨t + 1, vi (by omega), by omega, HVs.out, HIs.out⟩, by simp only [intOf]; omega⟩
              · obtain rfl : t = ys.length := by omega
                clear hlt hlt2 hlt3 ht
                go_wp2_with fail
                refine (runs_any wr HVr.out.set HVr.out.tab (by omega)).mono ?_
                rintro e w6 ⟨v6, rfl, ho6, hb6⟩
                obtain ⟨hfl, hri, htp⟩ := runs_mem m N
                obtain ⟨L, hL⟩ : ∃ L, runs (Ds.mem m N) = L := ⟨_, rfl⟩
                rw [hL] at ho6 hfl hri htp
                have hLl : L.length ≤ N := by rw [← hL]; have h1 := runs_len _ (Ds.mem m N) rfl; have h2 := cnt_le m N; unfold cnt at h2; omega
                have HV6 := hide (HVr.out.keep hb6 (by omega))
                have HI6 := hide (ints_keep HIr.out hb6)
                have HO6 := hide ho6
                have HFL := hide hfl
                have HRI := hide hri
                have HTP := hide htp
                have z6 := HV6.out.below.size
                obtain ⟨l, hl⟩ : ∃ l, L.length = l := ⟨_, rfl⟩
                rw [hl] at HO6 ho6 hLl
                obtain ⟨a6, k6, rfl⟩ := row_shape ho6
                have HLL := hide hl
                obtain ⟨i3, hi3, hz30, hz31, hz32⟩ := info_parts info3
                clear ho6 hb6 hfl hri htp hL hl HVr HIr zr
                go_wp2_with fail
                go_loopw [23, 24, 169] (fun v b j wr => ∃ (k : Nat) (lst : Int), j = .int .i64 (k : Nat) ∧ k ≤ l ∧ b = .int .i64 lst ∧ lst + 2 = (top 0 (L.take k) : Int) ∧ wr.ownsRow w6.heap.size 3 1 v (flat (L.take k)).length (intCells (flatI (flat (L.take k)))) ∧ Below w6.heap.size w6 wr) (fun _ _ j _ => l - (intOf j).toNat)
                case atStart => exact ⟨0, -2, rfl, Nat.zero_le _, rfl, rfl, World.ownsRow_nil _ _ _ _, Below.refl _ _⟩
                case round =>
                  obtain ⟨k, lst, rfl, hk, rfl, htop, hown, hb⟩ := hrel
                  have HOW := hide hown
                  have HB := hide hb
                  have zr := hb.size
                  obtain ⟨vo, vc, rfl⟩ := row_shape hown
                  have HTO := hide htop
                  clear hown hb htop
                  by_cases hlt : k < l
                  · obtain ⟨p, hp⟩ : ∃ p, L[k]? = some p := ⟨_, List.getElem?_eq_getElem (by rw [HLL.out]; exact hlt)⟩
                    obtain ⟨hp1, hp2, hp3⟩ := rising_at L 0 k p HRI.out hp
                    obtain ⟨hc0, hc1⟩ := runCells_get L k p hp
                    obtain ⟨g6, cp6, hv6, hl6, hl62, hg6⟩ := row_at HO6.out (by omega)
                    simp only [Value.slice.injEq, true_and] at hv6
                    obtain ⟨rfl, rfl⟩ := hv6
                    have hrk := row_keepTy HO6.out (keepTy_below HB.out 43)
                    have HRG := hide (show wr.rangeAt g6 (k * 2) [.int .i64 (p.1 : Nat), .int .i64 (p.2 : Nat)] from fun j u hu => by
                      match j, hu with
                      | 0, hu => simp at hu; subst hu; exact (row_cell hrk hc0).1
                      | 1, hu => simp at hu; subst hu; exact (row_cell hrk hc1).1)
                    have hft := flat_take hp
                    have htt := top_take (lo := 0) hp
                    obtain ⟨F, hF⟩ : ∃ F, flat (L.take k) = F := ⟨_, rfl⟩
                    rw [hF] at HOW hft ⊢
                    obtain ⟨f, hf⟩ : ∃ f, F.length = f := ⟨_, rfl⟩
                    have hfN : f ≤ N := by
                      have h1 : flat L = F ++ flat (L.drop k) := by rw [← hF]; unfold flat; rw [← List.flatMap_append, List.take_append_drop]
                      have h2 : (flat L).length = cnt m N := by rw [HFL.out]; rfl
                      have h3 := cnt_le m N
                      rw [h1, List.length_append] at h2
                      omega
                    rw [hf] at HOW ⊢
                    have HFT := hide hft
                    have HTT := hide htt
                    have HFF := hide hf
                    have htp := HTP.out
                    have hto := HTO.out
                    have hki : (k : Int) < (l : Int) := by omega
                    have q1 : lst + 2 ≤ (p.1 : Int) := by omega
                    have q2 : (p.1 : Int) ≤ (p.2 : Int) := by omega
                    have q3 : (p.2 : Int) < (N : Int) := by omega
                    have q4 : -2 ≤ lst := by omega
                    have e1 : ¬ (p.1 : Int) ≤ lst + 1 := by omega
                    have e2 : ¬ (p.2 : Int) < (p.1 : Int) := by omega
                    have e3 : ¬ (N : Int) ≤ (p.2 : Int) - (p.1 : Int) := by omega
                    obtain ⟨p1, p2⟩ := p
                    dsimp only at *
                    clear hp hp1 hp3 hc0 hc1 hrk hft htt hF hf htp hto
                    go_wp2_with (first | refine wpList_load_mid rfl 43 (.tmp 171) rfl g6 (k * 2) rfl _ _ HRG.out Tryd.underlying43 rfl size43 ?_ | refine wpList_store_row rfl 43 (.tmp 26) (.tmp 172) rfl wr.heap.size _ rfl rfl 43 _ (heap_new rfl _) size43 rfl rfl ?_)
                    have hA : (wr.alloc (.cells #[.int .i64 (p1 : Nat), .int .i64 (p2 : Nat)] 43)).heap[wr.heap.size]? = some (.cells #[.int .i64 (p1 : Nat), .int .i64 (p2 : Nat)] 43 (0, 0)) := heap_new rfl _
                    have HBA := hide (HB.out.alloc zr (.cells #[.int .i64 (p1 : Nat), .int .i64 (p2 : Nat)] 43))
                    have HOA := hide (World.ownsRow.alloc HOW.out (.cells #[.int .i64 (p1 : Nat), .int .i64 (p2 : Nat)] 43))
                    have HA := hide hA
                    clear hA HOW HRG e1 e2 e3
                    generalize wr.alloc (.cells #[.int .i64 (p1 : Nat), .int .i64 (p2 : Nat)] 43) = W at *
                    generalize wr.heap.size = Y at *
                    go_loopw [23, 27] (fun v j wq => ∃ d : Nat, j = .int .i64 (p1 + d : Nat) ∧ p1 + d ≤ p2 + 1 ∧ wq.ownsRow w6.heap.size 3 1 v (f + d) (intCells (flatI (F ++ List.range' p1 d))) ∧ Below w6.heap.size w6 wq ∧ KeepTy W wq 43) (fun _ j _ => p2 + 1 - (intOf j).toNat)
                    case atStart => exact ⟨0, rfl, by omega, by simpa using HOA.out, HBA.out, fun _ _ _ h => h⟩
                    case round =>
                      obtain ⟨d, rfl, hd, hown, hb, hkt⟩ := hrel
                      have HOQ := hide hown
                      have HBQ := hide hb
                      have HKQ := hide hkt
                      have zq := hb.size
                      obtain ⟨qo, qc, rfl⟩ := row_shape hown
                      obtain ⟨c0, c1⟩ := cells2 (hkt _ _ _ HA.out)
                      clear hown hb hkt
                      by_cases hld : p1 + d ≤ p2
                      · have hldi : ((p1 + d : Nat) : Int) ≤ (p2 : Int) := by omega
                        obtain ⟨v7, w7, r1, r2, r3, r4⟩ := run_row (wr.alloc (.cells #[.int .i64 (p1 + d : Nat)] 3)) w6.heap.size 22 22 3 i3 _ 1 8 Tryd.underlying22 hi3 hz30 hz31 hz32 rfl (by decide) (.slice qo (f + d) qc) (.slice (some ⟨wr.heap.size, 0, none⟩) 1 1) (f + d) 1 (intCells (flatI (F ++ List.range' p1 d))) (intCells [((p1 + d : Nat) : Int)]) (World.ownsRow.alloc HOQ.out _) (srcc_one (heap_new rfl _)) (intCells_one _) (by simp only [maxLen]; omega) (by omega) (by rw [World.size_alloc]; omega)
                        obtain ⟨vo7, vc7, rfl⟩ := row_shape r2
                        have HR7 := hide r1
                        have HB7 := hide (show Below w6.heap.size w6 w7 from (HBQ.out.alloc zq _).grown r3 (by rw [World.size_alloc]; omega) (fun j hj => (World.ownsRow.lt HOQ.out j hj).1))
                        have HO7 := hide (show w7.ownsRow w6.heap.size 3 1 (.slice vo7 (f + d + 1) vc7) (f + (d + 1)) (intCells (flatI (F ++ List.range' p1 (d + 1)))) from by
                          rw [List.range'_concat, Nat.one_mul, ← List.append_assoc, flatI_app, intCells_app, ← Nat.add_assoc]; exact r2)
                        have HK7 := hide (show KeepTy W w7 43 from (HKQ.out.trans (keepTy_below ((Below.refl wr.heap.size wr).alloc (Nat.le_refl _) _) 43)).trans (keepTy_grown r3 (notTy_row (World.ownsRow.alloc HOQ.out _) (by decide))))
                        clear r1 r2 r3 r4
                        have hwd : IntKind.i64.wrap (((p1 + d : Nat) : Int) + 1) = ((p1 + d : Nat) : Int) + 1 := by rw [IntKind.wrap_i64]; omega
                        obtain ⟨pd, hpd⟩ : ∃ pd, p1 + d = pd := ⟨_, rfl⟩
                        rw [hpd] at hldi HR7 hwd ⊢
                        have HPD := hide hpd
                        clear hpd
                        go_wp2_with (at_builtin; refine wpList_run 22 _ w7 _ _ _ rfl (.tmp 202) (.tmp 204) rfl rfl rfl HR7.out ?_)
                        go_wp2_with fail
                        have hpd := HPD.out
                        exact ⟨⟨d + 1, vi (by omega), by omega, HO7.out, HB7.out, HK7.out⟩, by simp only [intOf]; omega⟩
                      · have hldi : ¬ ((p1 + d : Nat) : Int) ≤ (p2 : Int) := by omega
                        have hfd : flat (L.take (k + 1)) = F ++ List.range' p1 d := by
                          rw [HFT.out]; unfold nums; dsimp only; rw [show p2 + 1 - p1 = d by omega]
                        have HOF := hide (show wr.ownsRow w6.heap.size 3 1 (.slice qo (f + d) qc) (flat (L.take (k + 1))).length (intCells (flatI (flat (L.take (k + 1))))) from by
                          rw [hfd, List.length_append, HFF.out, List.length_range']; exact HOQ.out)
                        clear hfd
                        go_wp2_with fail
                        exact ⟨⟨k + 1, p2, vi (by omega), by omega, rfl, by rw [HTT.out]; omega, HOF.out, HBQ.out⟩, by simp only [intOf]; omega⟩
                  · obtain rfl : l = k := by omega
                    have hfl : flat (L.take l) = Ds.mem m N := by rw [List.take_of_length_le (by rw [HLL.out]; exact Nat.le_refl _)]; exact HFL.out
                    have HIm := hide (ints_own (show wr.ownsRow w6.heap.size 3 1 (.slice vo (flat (L.take l)).length vc) (mI m N).length (intCells (mI m N)) from by
                      have h := HOW.out
                      rw [hfl] at h ⊢
                      rw [mI_len]
                      exact h))
                    have hlen : (flat (L.take l)).length = c := by rw [hfl]; exact HCC.out
                    rw [hlen] at HIm ⊢
                    have HIl := hide (ints_keep HI6.out HB.out)
                    have HQ := hide (ints_equal wr a3 vo k3 vc (mI m N) (mI m N) (by rw [HML.out]; exact HIl.out) (by rw [HML.out]; exact HIm.out) (by rw [HML.out]; omega))
                    rw [HML.out] at HQ
                    have HBE := hide (HV6.out.below.trans (HB.out.mono HV6.out.below.size))
                    clear hfl hlen
                    go_wp2_with fail
                    refine HQ.out.mono ?_
                    rintro e wz ⟨rfl, q, rfl⟩
                    go_wp2_with fail
                    go_ret
                    exact ⟨by simp, below_drewN HBE.out q⟩
  · go_wp2_with fail
    go_ret
    exact ⟨rfl, HB2.out⟩
end Go.Proofs.YtmkbbekeimnajaaDoor
