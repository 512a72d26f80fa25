/- near: a phrase is good -/
import Derived.Test.YtbimpoabiafdaaaDoorOg
namespace Go.Proofs.YtbimpoabiafdaaaDoor
open Go.RowKit Vf

/-- a Boolean that tells whether p -/
def BoolOut (p : Prop) (e : Ending) : Prop := ∃ b, e = .returned (.bool b) ∧ (b = true ↔ p)
theorem cells6 {w : World} {p : Nat} {a b c d e f : Value} {t : TypeId} {fr : Nat × Nat} (h : w.heap[p]? = some (.cells #[a, b, c, d, e, f] t fr)) :
    w.cell? ⟨p, 0, none⟩ = some a ∧ w.cell? ⟨p, 1, none⟩ = some b ∧ w.cell? ⟨p, 2, none⟩ = some c ∧ w.cell? ⟨p, 3, none⟩ = some d ∧ w.cell? ⟨p, 4, none⟩ = some e ∧ w.cell? ⟨p, 5, none⟩ = some f := by
  refine ⟨?_, ?_, ?_, ?_, ?_, ?_⟩ <;> (rw [cell_at h]; rfl)
theorem getD_of {l : List Int} {i : Nat} {x : Int} (h : l[i]? = some x) : l.getD i 0 = x := by rw [List.getD_eq_getElem?_getD, h]; rfl
theorem fieldOf_of {l : List (Int × ByteArray)} {k : Nat} {x : Int × ByteArray} (h : l[k]? = some x) : fieldOf l (k : Int) = x.1 := by unfold fieldOf; simp [h]

set_option maxRecDepth 100000 in
set_option maxHeartbeats 4000000 in
theorem near_any (w : World) (aa ac an ad ab : Option Addr) (na nn nd nb ca cc cn cd cb : Nat) (al : Bool) (cur : List (Int × ByteArray)) (hcur : Leafs w (.slice ac cur.length cc) cur)
    (as_ ao : Option Addr) (cs co : Nat) (n : Nr) (m mo : Nat) (hm : n.cs.length = m) (hmo : n.os.length = mo) (hcs : Ints w (.slice as_ m cs) n.cs) (hos : Ints w (.slice ao mo co) n.os) (hl1 : m ≤ 1099511627776) (hl2 : mo ≤ 1099511627776) :
    Calls Tryd.prog 49 #[.agg #[.slice aa na ca, .slice ac cur.length cc, .slice an nn cn, .bool al, .slice ad nd cd, .slice ab nb cb], .agg #[.slice as_ m cs, .slice ao mo co, .int .i64 n.slop]] w
      fun e w' => BoolOut (nrOk cur n) e ∧ Below w.heap.size w w' := by
  have hq1 := (Below.refl w.heap.size w).alloc (Nat.le_refl _) (.cells #[.slice aa na ca, .slice ac cur.length cc, .slice an nn cn, .bool al, .slice ad nd cd, .slice ab nb cb] 27)
  have hq2 := hq1.alloc (by simp) (.cells #[.slice as_ m cs, .slice ao mo co, .int .i64 n.slop] 65)
  have hP := heap_old (heap_new (w := w) rfl (.cells #[.slice aa na ca, .slice ac cur.length cc, .slice an nn cn, .bool al, .slice ad nd cd, .slice ab nb cb] 27)) (.cells #[.slice as_ m cs, .slice ao mo co, .int .i64 n.slop] 65)
  have hN := heap_new (w := w.alloc (.cells #[.slice aa na ca, .slice ac cur.length cc, .slice an nn cn, .bool al, .slice ad nd cd, .slice ab nb cb] 27)) rfl (.cells #[.slice as_ m cs, .slice ao mo co, .int .i64 n.slop] 65)
  rw [World.size_alloc] at hN
  have HC := hide (leafs_keep hcur hq2)
  have HS := hide (ints_keep hcs hq2)
  have HO := hide (ints_keep hos hq2)
  have HB := hide hq2
  clear hq1 hq2 hcur hcs hos
  have HM := hide hm
  have HMO := hide hmo
  clear hm hmo
  obtain ⟨p0, p1, p2, p3, p4, p5⟩ := cells6 hP
  obtain ⟨q0, q1, q2⟩ := cells3 hN
  clear hP hN
  by_cases k1 : 1 ≤ m
  · have k1e : m ≠ 0 := by omega
    have k1i : ¬ (m : Int) < 1 := by omega
    by_cases k2 : mo = m
    · replace k2 := k2.symm
      subst k2
      by_cases k3 : 0 ≤ n.slop ∧ n.slop < 2147483647
      · have hd3 : decide (0 ≤ n.slop ∧ n.slop < 2147483647) = true := by simpa using k3
        have n3 : ¬ n.slop < 0 := by omega
        have n3b : ¬ 2147483646 < n.slop := by omega
        go_enter Tryd.func49, Tryd.ntmps49
        go_wp2_with fail
        refine (inside_any _ _ _).mono ?_
        rintro e w' ⟨rfl, rfl⟩
        rw [hd3]
        go_wp2_with fail
        generalize (w.alloc (.cells #[.slice aa na ca, .slice ac cur.length cc, .slice an nn cn, .bool al, .slice ad nd cd, .slice ab nb cb] 27)).alloc (.cells #[.slice as_ m cs, .slice ao m co, .int .i64 n.slop] 65) = W at *
        go_loopw [29] (fun c wr => ∃ i : Nat, i ≤ m ∧ c = .int .i64 i ∧ (∀ j, j < i → nrOk1 cur n j) ∧ ∃ q, wr = W.drewN q) (fun c _ => m - (intOf c).toNat)
        case atStart => exact ⟨0, by omega, rfl, fun j hj => absurd hj (by omega), 0, rfl⟩
        case round =>
          obtain ⟨i, hi, rfl, hpre, q, rfl⟩ := hrel
          have HPRE := hide hpre
          clear hpre
          by_cases hlt : i < m
          · obtain ⟨c, hc⟩ : ∃ x, n.cs[i]? = some x := ⟨_, List.getElem?_eq_getElem (by rw [HM.out]; exact hlt)⟩
            obtain ⟨o, ho⟩ : ∃ x, n.os[i]? = some x := ⟨_, List.getElem?_eq_getElem (by rw [HMO.out]; exact hlt)⟩
            obtain ⟨c0, hc0⟩ : ∃ x, n.cs[0]? = some x := ⟨_, List.getElem?_eq_getElem (by rw [HM.out]; omega)⟩
            obtain ⟨as1, rfl, hcc⟩ := ints_get HS.out hc
            obtain ⟨ao1, rfl, hoc⟩ := ints_get HO.out ho
            obtain ⟨as2, he, hcc0⟩ := ints_get HS.out hc0
            obtain rfl := Option.some.inj he
            rw [Addr.add_zero'] at hcc0
            have HC1 := hide (getD_of hc)
            have HO1 := hide (getD_of ho)
            have HC0 := hide (getD_of hc0)
            have HNE := hide (show i = 0 → c = c0 from fun h => by subst h; exact Option.some.inj (hc.symm.trans hc0))
            have hi1 : (i : Int) < (m : Int) := by omega
            have hlo : i < m := by omega
            have hl0 : 0 < m := by omega
            clear hc ho hc0 he
            by_cases k4 : 0 ≤ c ∧ c < (cur.length : Int)
            · have hd4 : decide (0 ≤ c ∧ c < (cur.length : Int)) = true := by simpa using k4
              obtain ⟨ck, rfl⟩ := Int.eq_ofNat_of_zero_le k4.1
              have hckl : ck < cur.length := by omega
              have n4 : ¬ ((ck : Int) < 0) := by omega
              have n4b : ¬ ((cur.length : Int) ≤ (ck : Int)) := by omega
              by_cases k5 : 0 ≤ o ∧ o < 2147483647
              · have hd5 : decide (0 ≤ o ∧ o < 2147483647) = true := by simpa using k5
                have h00 : 0 ≤ c0 ∧ c0 < (cur.length : Int) := by
                  by_cases h0 : i = 0
                  · rw [← HNE.out h0]; exact k4
                  · have h := HPRE.out 0 (by omega)
                    have e := HC0.out
                    rw [nrOk1, e] at h
                    exact ⟨h.1, h.2.1⟩
                obtain ⟨k0, rfl⟩ := Int.eq_ofNat_of_zero_le h00.1
                have hk0l : k0 < cur.length := by omega
                obtain ⟨x, hx⟩ : ∃ x, cur[ck]? = some x := ⟨_, List.getElem?_eq_getElem hckl⟩
                obtain ⟨y, hy⟩ : ∃ x, cur[k0]? = some x := ⟨_, List.getElem?_eq_getElem hk0l⟩
                obtain ⟨ac1, rfl, hxc, _⟩ := leafs_get HC.out hx
                obtain ⟨ac2, he, hyc, _⟩ := leafs_get HC.out hy
                obtain rfl := Option.some.inj he
                have HX := hide (fieldOf_of hx)
                have HY := hide (fieldOf_of hy)
                obtain ⟨fx, hfx⟩ : ∃ f, x.1 = f := ⟨_, rfl⟩
                obtain ⟨fy, hfy⟩ : ∃ f, y.1 = f := ⟨_, rfl⟩
                rw [hfx] at hxc HX
                rw [hfy] at hyc HY
                clear hx hy he hfx hfy h00
                have K4 := hide k4
                have K5 := hide k5
                have n5 : ¬ (o < 0) := by omega
                have n5b : ¬ (2147483646 < o) := by omega
                clear k4 k5
                by_cases k6 : fx = fy
                · subst k6
                  have HNEW := hide (show nrOk1 cur n i from by rw [nrOk1, HC1.out, HO1.out, HC0.out]; exact ⟨K4.out.1, K4.out.2, K5.out.1, K5.out.2, HX.out.trans HY.out.symm⟩)
                  go_wp2_with fail
                  refine (inside_any _ _ _).mono ?_
                  rintro e w' ⟨rfl, rfl⟩
                  rw [hd4]
                  go_wp2_with fail
                  refine (inside_any _ _ _).mono ?_
                  rintro e w' ⟨rfl, rfl⟩
                  rw [hd5]
                  go_wp2_with fail
                  go_quiet (fail)
                  go_wp2_with fail
                  refine ⟨⟨i + 1, by omega, by simp, fun j hj => ?_, _, rfl⟩, by simp [intOf]; omega⟩
                  by_cases hji : j = i
                  · subst hji; exact HNEW.out
                  · exact HPRE.out j (by omega)
                · have e6 : (fx == fy) = false := by simpa using k6
                  have e6b : (fx = fy) = False := by simpa using k6
                  have HF := hide (show ¬ nrOk cur n from fun h => by
                    have h := (h.2.2.2.2 i (by rw [HM.out]; exact hlt)).2.2.2.2
                    rw [HC1.out, HC0.out] at h
                    exact k6 (HX.out.symm.trans (h.trans HY.out)))
                  clear k6
                  go_wp2_with fail
                  refine (inside_any _ _ _).mono ?_
                  rintro e w' ⟨rfl, rfl⟩
                  rw [hd4]
                  go_wp2_with fail
                  refine (inside_any _ _ _).mono ?_
                  rintro e w' ⟨rfl, rfl⟩
                  rw [hd5]
                  go_wp2_with fail
                  go_quiet (fail)
                  go_wp2_with fail
                  go_ret
                  exact ⟨⟨false, rfl, by simp only [Bool.false_eq_true, false_iff]; exact HF.out⟩, below_drewN (below_drewN HB.out _) _⟩
              · have hd5 : decide (0 ≤ o ∧ o < 2147483647) = false := by simpa using k5
                have HF := hide (show ¬ nrOk cur n from fun h => by
                  have h := h.2.2.2.2 i (by rw [HM.out]; exact hlt)
                  rw [nrOk1, HC1.out, HO1.out, HC0.out] at h
                  exact k5 ⟨h.2.2.1, h.2.2.2.1⟩)
                go_wp2_with fail
                refine (inside_any _ _ _).mono ?_
                rintro e w' ⟨rfl, rfl⟩
                rw [hd4]
                go_wp2_with fail
                refine (inside_any _ _ _).mono ?_
                rintro e w' ⟨rfl, rfl⟩
                rw [hd5]
                go_wp2_with fail
                go_ret
                exact ⟨⟨false, rfl, by simp only [Bool.false_eq_true, false_iff]; exact HF.out⟩, below_drewN HB.out _⟩
            · have hd4 : decide (0 ≤ c ∧ c < (cur.length : Int)) = false := by simpa using k4
              have HF := hide (show ¬ nrOk cur n from fun h => by
                have h := h.2.2.2.2 i (by rw [HM.out]; exact hlt)
                rw [nrOk1, HC1.out, HO1.out, HC0.out] at h
                exact k4 ⟨h.1, h.2.1⟩)
              go_wp2_with fail
              refine (inside_any _ _ _).mono ?_
              rintro e w' ⟨rfl, rfl⟩
              rw [hd4]
              go_wp2_with fail
              go_ret
              exact ⟨⟨false, rfl, by simp only [Bool.false_eq_true, false_iff]; exact HF.out⟩, below_drewN HB.out _⟩
          · obtain rfl : i = m := by omega
            have HT := hide (show nrOk cur n from ⟨by rw [HM.out]; exact k1, by rw [HM.out, HMO.out], k3.1, k3.2, fun j hj => HPRE.out j (by rw [HM.out] at hj; exact hj)⟩)
            go_wp2_with fail
            go_ret
            exact ⟨⟨true, rfl, by simp only [true_iff]; exact HT.out⟩, below_drewN HB.out _⟩
      · have hd3 : decide (0 ≤ n.slop ∧ n.slop < 2147483647) = false := by simpa using k3
        have HF := hide (show ¬ nrOk cur n from fun h => k3 ⟨h.2.2.1, h.2.2.2.1⟩)
        go_enter Tryd.func49, Tryd.ntmps49
        go_wp2_with fail
        refine (inside_any _ _ _).mono ?_
        rintro e w' ⟨rfl, rfl⟩
        rw [hd3]
        go_wp2_with fail
        go_ret
        exact ⟨⟨false, rfl, by simp only [Bool.false_eq_true, false_iff]; exact HF.out⟩, HB.out⟩
    · have k2i : ((mo : Int) == (m : Int)) = false := by simp; omega
      have k2j : ((mo : Int) = (m : Int)) = False := by simp; omega
      have k2k : ((m : Int) == (mo : Int)) = false := by simp; omega
      have k2l : ((m : Int) = (mo : Int)) = False := by simp; omega
      have HF := hide (show ¬ nrOk cur n from fun h => k2 (by rw [← HM.out, ← HMO.out]; exact h.2.1))
      go_enter Tryd.func49, Tryd.ntmps49
      go_wp2_with fail
      go_ret
      exact ⟨⟨false, rfl, by simp only [Bool.false_eq_true, false_iff]; exact HF.out⟩, HB.out⟩
  · have k1' : m < 1 := by omega
    have k1i : (m : Int) < 1 := by omega
    have k1e : (m : Int) = 0 := by omega
    have k1f : ((m : Int) == 0) = true := by simp; omega
    have HF := hide (show ¬ nrOk cur n from fun h => k1 (by rw [← HM.out]; exact h.1))
    clear k1e k1f
    go_enter Tryd.func49, Tryd.ntmps49
    go_wp2_with fail
    go_ret
    exact ⟨⟨false, rfl, by simp only [Bool.false_eq_true, false_iff]; exact HF.out⟩, HB.out⟩

set_option maxRecDepth 100000 in
set_option maxHeartbeats 4000000 in
theorem ref_near_any (w : World) (aa ac an ad ab : Option Addr) (na nn nd nb ca cc cn cd cb : Nat) (al : Bool) (cur : List (Int × ByteArray)) (hcur : Leafs w (.slice ac cur.length cc) cur)
    (as_ ao : Option Addr) (cs co : Nat) (n : Nr) (m mo : Nat) (hm : n.cs.length = m) (hmo : n.os.length = mo) (hcs : Ints w (.slice as_ m cs) n.cs) (hos : Ints w (.slice ao mo co) n.os) (hl1 : m ≤ 1099511627776) (hl2 : mo ≤ 1099511627776) :
    Calls Tryd.prog 42 #[.agg #[.slice aa na ca, .slice ac cur.length cc, .slice an nn cn, .bool al, .slice ad nd cd, .slice ab nb cb], .agg #[.slice as_ m cs, .slice ao mo co, .int .i64 n.slop]] w
      fun e w' => BoolOut (nrOk cur n) e ∧ Below w.heap.size w w' := by
  have hq1 := (Below.refl w.heap.size w).alloc (Nat.le_refl _) (.cells #[.slice aa na ca, .slice ac cur.length cc, .slice an nn cn, .bool al, .slice ad nd cd, .slice ab nb cb] 27)
  have hq2 := hq1.alloc (by simp) (.cells #[.slice as_ m cs, .slice ao mo co, .int .i64 n.slop] 65)
  have hP := heap_old (heap_new (w := w) rfl (.cells #[.slice aa na ca, .slice ac cur.length cc, .slice an nn cn, .bool al, .slice ad nd cd, .slice ab nb cb] 27)) (.cells #[.slice as_ m cs, .slice ao mo co, .int .i64 n.slop] 65)
  have hN := heap_new (w := w.alloc (.cells #[.slice aa na ca, .slice ac cur.length cc, .slice an nn cn, .bool al, .slice ad nd cd, .slice ab nb cb] 27)) rfl (.cells #[.slice as_ m cs, .slice ao mo co, .int .i64 n.slop] 65)
  rw [World.size_alloc] at hN
  have HC := hide (leafs_keep hcur hq2)
  have HS := hide (ints_keep hcs hq2)
  have HO := hide (ints_keep hos hq2)
  have HB := hide hq2
  clear hq1 hq2 hcur hcs hos
  have HM := hide hm
  have HMO := hide hmo
  clear hm hmo
  obtain ⟨p0, p1, p2, p3, p4, p5⟩ := cells6 hP
  obtain ⟨q0, q1, q2⟩ := cells3 hN
  clear hP hN
  by_cases k1 : 1 ≤ m
  · have k1e : m ≠ 0 := by omega
    have k1i : ¬ (m : Int) < 1 := by omega
    by_cases k2 : mo = m
    · replace k2 := k2.symm
      subst k2
      by_cases k3 : 0 ≤ n.slop ∧ n.slop < 2147483647
      · have hd3 : decide (0 ≤ n.slop ∧ n.slop < 2147483647) = true := by simpa using k3
        have n3 : ¬ n.slop < 0 := by omega
        have n3b : ¬ 2147483646 < n.slop := by omega
        go_enter Tryd.func42, Tryd.ntmps42
        go_wp2_with fail

        generalize (w.alloc (.cells #[.slice aa na ca, .slice ac cur.length cc, .slice an nn cn, .bool al, .slice ad nd cd, .slice ab nb cb] 27)).alloc (.cells #[.slice as_ m cs, .slice ao m co, .int .i64 n.slop] 65) = W at *
        go_loopw [5] (fun c wr => ∃ i : Nat, i ≤ m ∧ c = .int .i64 i ∧ (∀ j, j < i → nrOk1 cur n j) ∧ ∃ q, wr = W.drewN q) (fun c _ => m - (intOf c).toNat)
        case atStart => exact ⟨0, by omega, rfl, fun j hj => absurd hj (by omega), 0, rfl⟩
        case round =>
          obtain ⟨i, hi, rfl, hpre, q, rfl⟩ := hrel
          have HPRE := hide hpre
          clear hpre
          by_cases hlt : i < m
          · obtain ⟨c, hc⟩ : ∃ x, n.cs[i]? = some x := ⟨_, List.getElem?_eq_getElem (by rw [HM.out]; exact hlt)⟩
            obtain ⟨o, ho⟩ : ∃ x, n.os[i]? = some x := ⟨_, List.getElem?_eq_getElem (by rw [HMO.out]; exact hlt)⟩
            obtain ⟨c0, hc0⟩ : ∃ x, n.cs[0]? = some x := ⟨_, List.getElem?_eq_getElem (by rw [HM.out]; omega)⟩
            obtain ⟨as1, rfl, hcc⟩ := ints_get HS.out hc
            obtain ⟨ao1, rfl, hoc⟩ := ints_get HO.out ho
            obtain ⟨as2, he, hcc0⟩ := ints_get HS.out hc0
            obtain rfl := Option.some.inj he
            rw [Addr.add_zero'] at hcc0
            have HC1 := hide (getD_of hc)
            have HO1 := hide (getD_of ho)
            have HC0 := hide (getD_of hc0)
            have HNE := hide (show i = 0 → c = c0 from fun h => by subst h; exact Option.some.inj (hc.symm.trans hc0))
            have hi1 : (i : Int) < (m : Int) := by omega
            have hlo : i < m := by omega
            have hl0 : 0 < m := by omega
            clear hc ho hc0 he
            by_cases k4 : 0 ≤ c ∧ c < (cur.length : Int)
            · have hd4 : decide (0 ≤ c ∧ c < (cur.length : Int)) = true := by simpa using k4
              obtain ⟨ck, rfl⟩ := Int.eq_ofNat_of_zero_le k4.1
              have hckl : ck < cur.length := by omega
              have n4 : ¬ ((ck : Int) < 0) := by omega
              have n4b : ¬ ((cur.length : Int) ≤ (ck : Int)) := by omega
              by_cases k5 : 0 ≤ o ∧ o < 2147483647
              · have hd5 : decide (0 ≤ o ∧ o < 2147483647) = true := by simpa using k5
                have h00 : 0 ≤ c0 ∧ c0 < (cur.length : Int) := by
                  by_cases h0 : i = 0
                  · rw [← HNE.out h0]; exact k4
                  · have h := HPRE.out 0 (by omega)
                    have e := HC0.out
                    rw [nrOk1, e] at h
                    exact ⟨h.1, h.2.1⟩
                obtain ⟨k0, rfl⟩ := Int.eq_ofNat_of_zero_le h00.1
                have hk0l : k0 < cur.length := by omega
                obtain ⟨x, hx⟩ : ∃ x, cur[ck]? = some x := ⟨_, List.getElem?_eq_getElem hckl⟩
                obtain ⟨y, hy⟩ : ∃ x, cur[k0]? = some x := ⟨_, List.getElem?_eq_getElem hk0l⟩
                obtain ⟨ac1, rfl, hxc, _⟩ := leafs_get HC.out hx
                obtain ⟨ac2, he, hyc, _⟩ := leafs_get HC.out hy
                obtain rfl := Option.some.inj he
                have HX := hide (fieldOf_of hx)
                have HY := hide (fieldOf_of hy)
                obtain ⟨fx, hfx⟩ : ∃ f, x.1 = f := ⟨_, rfl⟩
                obtain ⟨fy, hfy⟩ : ∃ f, y.1 = f := ⟨_, rfl⟩
                rw [hfx] at hxc HX
                rw [hfy] at hyc HY
                clear hx hy he hfx hfy h00
                have K4 := hide k4
                have K5 := hide k5
                have n5 : ¬ (o < 0) := by omega
                have n5b : ¬ (2147483646 < o) := by omega
                clear k4 k5
                by_cases k6 : fx = fy
                · subst k6
                  have HNEW := hide (show nrOk1 cur n i from by rw [nrOk1, HC1.out, HO1.out, HC0.out]; exact ⟨K4.out.1, K4.out.2, K5.out.1, K5.out.2, HX.out.trans HY.out.symm⟩)
                  go_wp2_with fail
                  go_quiet (fail)
                  go_wp2_with fail
                  refine ⟨⟨i + 1, by omega, by simp, fun j hj => ?_, _, rfl⟩, by simp [intOf]; omega⟩
                  by_cases hji : j = i
                  · subst hji; exact HNEW.out
                  · exact HPRE.out j (by omega)
                · have e6 : (fx == fy) = false := by simpa using k6
                  have e6b : (fx = fy) = False := by simpa using k6
                  have HF := hide (show ¬ nrOk cur n from fun h => by
                    have h := (h.2.2.2.2 i (by rw [HM.out]; exact hlt)).2.2.2.2
                    rw [HC1.out, HC0.out] at h
                    exact k6 (HX.out.symm.trans (h.trans HY.out)))
                  clear k6
                  go_wp2_with fail
                  go_quiet (fail)
                  go_wp2_with fail
                  go_ret
                  exact ⟨⟨false, rfl, by simp only [Bool.false_eq_true, false_iff]; exact HF.out⟩, below_drewN (below_drewN HB.out _) _⟩
              · have hd5 : decide (0 ≤ o ∧ o < 2147483647) = false := by simpa using k5
                have HF := hide (show ¬ nrOk cur n from fun h => by
                  have h := h.2.2.2.2 i (by rw [HM.out]; exact hlt)
                  rw [nrOk1, HC1.out, HO1.out, HC0.out] at h
                  exact k5 ⟨h.2.2.1, h.2.2.2.1⟩)
                by_cases n5 : o < 0
                · clear k5 hd5
                  go_wp2_with fail
                  go_ret
                  exact ⟨⟨false, rfl, by simp only [Bool.false_eq_true, false_iff]; exact HF.out⟩, below_drewN HB.out _⟩
                · have n5b : 2147483646 < o := by omega
                  have n5c : ¬ o < 0 := n5
                  clear k5 hd5
                  go_wp2_with fail
                  go_ret
                  exact ⟨⟨false, rfl, by simp only [Bool.false_eq_true, false_iff]; exact HF.out⟩, below_drewN HB.out _⟩
            · have hd4 : decide (0 ≤ c ∧ c < (cur.length : Int)) = false := by simpa using k4
              have HF := hide (show ¬ nrOk cur n from fun h => by
                have h := h.2.2.2.2 i (by rw [HM.out]; exact hlt)
                rw [nrOk1, HC1.out, HO1.out, HC0.out] at h
                exact k4 ⟨h.1, h.2.1⟩)
              by_cases n4 : c < 0
              · clear k4 hd4
                go_wp2_with fail
                go_ret
                exact ⟨⟨false, rfl, by simp only [Bool.false_eq_true, false_iff]; exact HF.out⟩, below_drewN HB.out _⟩
              · have n4b : (cur.length : Int) ≤ c := by omega
                clear k4 hd4
                go_wp2_with fail
                go_ret
                exact ⟨⟨false, rfl, by simp only [Bool.false_eq_true, false_iff]; exact HF.out⟩, below_drewN HB.out _⟩
          · obtain rfl : i = m := by omega
            have HT := hide (show nrOk cur n from ⟨by rw [HM.out]; exact k1, by rw [HM.out, HMO.out], k3.1, k3.2, fun j hj => HPRE.out j (by rw [HM.out] at hj; exact hj)⟩)
            go_wp2_with fail
            go_ret
            exact ⟨⟨true, rfl, by simp only [true_iff]; exact HT.out⟩, below_drewN HB.out _⟩
      · have hd3 : decide (0 ≤ n.slop ∧ n.slop < 2147483647) = false := by simpa using k3
        have HF := hide (show ¬ nrOk cur n from fun h => k3 ⟨h.2.2.1, h.2.2.2.1⟩)
        by_cases n3 : n.slop < 0
        · clear k3 hd3
          go_enter Tryd.func42, Tryd.ntmps42
          go_wp2_with fail
          go_ret
          exact ⟨⟨false, rfl, by simp only [Bool.false_eq_true, false_iff]; exact HF.out⟩, HB.out⟩
        · have n3b : 2147483646 < n.slop := by omega
          clear k3 hd3
          go_enter Tryd.func42, Tryd.ntmps42
          go_wp2_with fail
          go_ret
          exact ⟨⟨false, rfl, by simp only [Bool.false_eq_true, false_iff]; exact HF.out⟩, HB.out⟩
    · have k2i : ((mo : Int) == (m : Int)) = false := by simp; omega
      have k2j : ((mo : Int) = (m : Int)) = False := by simp; omega
      have k2k : ((m : Int) == (mo : Int)) = false := by simp; omega
      have k2l : ((m : Int) = (mo : Int)) = False := by simp; omega
      have HF := hide (show ¬ nrOk cur n from fun h => k2 (by rw [← HM.out, ← HMO.out]; exact h.2.1))
      go_enter Tryd.func42, Tryd.ntmps42
      go_wp2_with fail
      go_ret
      exact ⟨⟨false, rfl, by simp only [Bool.false_eq_true, false_iff]; exact HF.out⟩, HB.out⟩
  · have k1' : m < 1 := by omega
    have k1i : (m : Int) < 1 := by omega
    have k1e : (m : Int) = 0 := by omega
    have k1f : ((m : Int) == 0) = true := by simp; omega
    have HF := hide (show ¬ nrOk cur n from fun h => k1 (by rw [← HM.out]; exact h.1))
    clear k1i
    go_enter Tryd.func42, Tryd.ntmps42
    go_wp2_with fail
    go_ret
    exact ⟨⟨false, rfl, by simp only [Bool.false_eq_true, false_iff]; exact HF.out⟩, HB.out⟩
end Go.Proofs.YtbimpoabiafdaaaDoor
