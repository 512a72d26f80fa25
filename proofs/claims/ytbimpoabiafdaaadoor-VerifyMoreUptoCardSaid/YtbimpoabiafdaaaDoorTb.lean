/- tables: are the tables good? -/
import Derived.Test.YtbimpoabiafdaaaDoorNr
import Derived.Deep.RegionWith

namespace Go.Proofs.YtbimpoabiafdaaaDoor
open Go.RowKit Vf

set_option maxRecDepth 100000 in
set_option maxHeartbeats 1500000 in
theorem tables_any (w : World) (aa ac an ad ab : Option Addr) (ca cc cn cd cb : Nat) (al : Bool) (P : Prg) (hal : P.all = al)
    (hP : PrgAt w (.slice aa P.avgs.length ca) (.slice ac P.cur.length cc) (.slice an P.nears.length cn) (.slice ad P.drive.length cd) (.slice ab P.code.length cb) P) (hL : Little P 1099511627776) :
    Calls Tryd.prog 36 #[.agg #[.slice aa P.avgs.length ca, .slice ac P.cur.length cc, .slice an P.nears.length cn, .bool al, .slice ad P.drive.length cd, .slice ab P.code.length cb]] w fun e w' => BoolOut (tabOk P) e ∧ Below w.heap.size w w' := by
  have hq1 := (Below.refl w.heap.size w).alloc (Nat.le_refl _) (.cells #[.slice aa P.avgs.length ca, .slice ac P.cur.length cc, .slice an P.nears.length cn, .bool al, .slice ad P.drive.length cd, .slice ab P.code.length cb] 27)
  have HP := hide (hP.keep hq1)
  have HB := hide hq1
  have HAL := hide hal
  have hh := heap_new (w := w) rfl (.cells #[.slice aa P.avgs.length ca, .slice ac P.cur.length cc, .slice an P.nears.length cn, .bool al, .slice ad P.drive.length cd, .slice ab P.code.length cb] 27)
  have hlt0 : w.heap.size < (w.alloc (.cells #[.slice aa P.avgs.length ca, .slice ac P.cur.length cc, .slice an P.nears.length cn, .bool al, .slice ad P.drive.length cd, .slice ab P.code.length cb] 27)).heap.size := by simp
  obtain ⟨p0', p1', p2', p3', p4', p5'⟩ := cells6 hh
  have P0 := hide fun w' (h : Below (w.alloc (.cells #[.slice aa P.avgs.length ca, .slice ac P.cur.length cc, .slice an P.nears.length cn, .bool al, .slice ad P.drive.length cd, .slice ab P.code.length cb] 27)).heap.size (w.alloc (.cells #[.slice aa P.avgs.length ca, .slice ac P.cur.length cc, .slice an P.nears.length cn, .bool al, .slice ad P.drive.length cd, .slice ab P.code.length cb] 27)) w') => lt_keep p0' h
  have P1 := hide fun w' (h : Below (w.alloc (.cells #[.slice aa P.avgs.length ca, .slice ac P.cur.length cc, .slice an P.nears.length cn, .bool al, .slice ad P.drive.length cd, .slice ab P.code.length cb] 27)).heap.size (w.alloc (.cells #[.slice aa P.avgs.length ca, .slice ac P.cur.length cc, .slice an P.nears.length cn, .bool al, .slice ad P.drive.length cd, .slice ab P.code.length cb] 27)) w') => lt_keep p1' h
  have P2 := hide fun w' (h : Below (w.alloc (.cells #[.slice aa P.avgs.length ca, .slice ac P.cur.length cc, .slice an P.nears.length cn, .bool al, .slice ad P.drive.length cd, .slice ab P.code.length cb] 27)).heap.size (w.alloc (.cells #[.slice aa P.avgs.length ca, .slice ac P.cur.length cc, .slice an P.nears.length cn, .bool al, .slice ad P.drive.length cd, .slice ab P.code.length cb] 27)) w') => lt_keep p2' h
  have P3 := hide fun w' (h : Below (w.alloc (.cells #[.slice aa P.avgs.length ca, .slice ac P.cur.length cc, .slice an P.nears.length cn, .bool al, .slice ad P.drive.length cd, .slice ab P.code.length cb] 27)).heap.size (w.alloc (.cells #[.slice aa P.avgs.length ca, .slice ac P.cur.length cc, .slice an P.nears.length cn, .bool al, .slice ad P.drive.length cd, .slice ab P.code.length cb] 27)) w') => lt_keep p3' h
  have P4 := hide fun w' (h : Below (w.alloc (.cells #[.slice aa P.avgs.length ca, .slice ac P.cur.length cc, .slice an P.nears.length cn, .bool al, .slice ad P.drive.length cd, .slice ab P.code.length cb] 27)).heap.size (w.alloc (.cells #[.slice aa P.avgs.length ca, .slice ac P.cur.length cc, .slice an P.nears.length cn, .bool al, .slice ad P.drive.length cd, .slice ab P.code.length cb] 27)) w') => lt_keep p4' h
  have P5 := hide fun w' (h : Below (w.alloc (.cells #[.slice aa P.avgs.length ca, .slice ac P.cur.length cc, .slice an P.nears.length cn, .bool al, .slice ad P.drive.length cd, .slice ab P.code.length cb] 27)).heap.size (w.alloc (.cells #[.slice aa P.avgs.length ca, .slice ac P.cur.length cc, .slice an P.nears.length cn, .bool al, .slice ad P.drive.length cd, .slice ab P.code.length cb] 27)) w') => lt_keep p5' h
  clear hq1 hP hal hh p0' p1' p2' p3' p4' p5'
  have l1 := hL.avgs
  have l2 := hL.cur
  have l3 := hL.nears
  have l4 := hL.drive
  by_cases k1 : 1 ≤ P.avgs.length
  · have k1i : ¬ (P.avgs.length : Int) < 1 := by omega
    have k1n : ¬ P.avgs.length < 1 := by omega
    by_cases k2 : P.avgs.length ≤ 16
    · have k2i : ¬ 16 < (P.avgs.length : Int) := by omega
      have k2n : ¬ 16 < P.avgs.length := by omega
      go_enter Tryd.func36, Tryd.ntmps36
      go_wp2_with fail
      generalize w.alloc (.cells #[.slice aa P.avgs.length ca, .slice ac P.cur.length cc, .slice an P.nears.length cn, .bool al, .slice ad P.drive.length cd, .slice ab P.code.length cb] 27) = W at *
      go_loopw [24] (fun c wr => ∃ i : Nat, i ≤ P.avgs.length ∧ c = .int .i64 i ∧ (∀ j x, j < i → P.avgs[j]? = some x → 0 ≤ x) ∧ W = wr) (fun c _ => P.avgs.length - (intOf c).toNat)
      case atStart => exact ⟨0, by omega, rfl, fun j x hj _ => absurd hj (by omega), rfl⟩
      case round =>
        obtain ⟨i, hi, rfl, hpre, rfl⟩ := hrel
        have HPRE := hide hpre
        clear hpre
        have p0 := P0.out _ (Below.refl _ _)
        by_cases hlt : i < P.avgs.length
        · obtain ⟨a, ha⟩ : ∃ x, P.avgs[i]? = some x := ⟨_, List.getElem?_eq_getElem hlt⟩
          have HX := hide ha
          obtain ⟨aa1, rfl, hac⟩ := ints_get HP.out.avgs ha
          have hin : (i : Int) < (P.avgs.length : Int) := by omega
          clear ha
          by_cases k4 : 0 ≤ a
          · have n4 : ¬ a < 0 := by omega
            have K4 := hide k4
            clear k4
            go_wp2_with fail
            refine ⟨⟨i + 1, by omega, by simp, fun j x hj hx => ?_, trivial⟩, by simp [intOf]; omega⟩
            by_cases hji : j = i
            · subst hji
              obtain rfl := Option.some.inj (HX.out.symm.trans hx)
              exact K4.out
            · exact HPRE.out j x (by omega) hx
          · have n4 : a < 0 := by omega
            have HF := hide (show ¬ tabOk P from fun h => k4 (h.2.2.1 a (List.mem_of_getElem? HX.out)))
            clear k4
            go_wp2_with fail
            go_ret
            exact ⟨⟨false, rfl, by simp only [Bool.false_eq_true, false_iff]; exact HF.out⟩, HB.out⟩
        · obtain rfl : i = P.avgs.length := by omega
          have HA := hide (show ∀ x ∈ P.avgs, 0 ≤ x from fun x hx => by
            obtain ⟨j, hj⟩ := List.mem_iff_getElem?.1 hx
            exact HPRE.out j x (List.getElem?_eq_some_iff.1 hj).1 hj)
          clear HPRE
          have p1 := P1.out _ (Below.refl _ _)
          go_wp2_with fail
          go_loopw [34] (fun c wr => ∃ i : Nat, i ≤ P.cur.length ∧ c = .int .i64 i ∧ (∀ j x, j < i → P.cur[j]? = some x → curOk P.avgs.length x) ∧ Below W.heap.size W wr) (fun c _ => P.cur.length - (intOf c).toNat)
          case atStart => exact ⟨0, by omega, rfl, fun j x hj _ => absurd hj (by omega), Below.refl _ _⟩
          case round =>
            obtain ⟨i, hi, rfl, hpre, hb⟩ := hrel
            have HPRE := hide hpre
            have HBW := hide hb
            have hsw := hb.size
            clear hpre hb
            have p1 := P1.out _ HBW.out
            by_cases hlt : i < P.cur.length
            · obtain ⟨x, hx⟩ : ∃ x, P.cur[i]? = some x := ⟨_, List.getElem?_eq_getElem hlt⟩
              have HX := hide hx
              obtain ⟨ac1, rfl, hc0, hc1⟩ := leafs_get (leafs_keep HP.out.cur HBW.out) hx
              have hin : (i : Int) < (P.cur.length : Int) := by omega
              obtain ⟨f, s⟩ := x
              simp only at hc0 hc1
              have hq := (Below.refl wr.heap.size wr).alloc (Nat.le_refl _) (.cells #[.int .i64 f, .string s] 63)
              have HBA := hide (HBW.out.trans (hq.mono hsw))
              have p0 := P0.out _ HBA.out
              clear hx hq
              by_cases k4 : 0 ≤ f ∧ f < (P.avgs.length : Int)
              · have hd4 : decide (0 ≤ f ∧ f < (P.avgs.length : Int)) = true := by simpa using k4
                have n4 : ¬ f < 0 := by omega
                have n4b : ¬ (P.avgs.length : Int) ≤ f := by omega
                have K4 := hide k4
                clear k4
                by_cases k5 : s.size ≤ 64
                · have n5 : ¬ 64 < s.size := by omega
                  have n5i : ¬ 64 < (s.size : Int) := by omega
                  have HNEW := hide (show curOk P.avgs.length (f, s) from ⟨K4.out.1, K4.out.2, k5⟩)
                  clear k5
                  go_wp2_with fail
                  refine (inside_any _ _ _).mono ?_
                  rintro e w' ⟨rfl, rfl⟩
                  rw [hd4]
                  go_wp2_with fail
                  refine ⟨⟨i + 1, by omega, by simp, fun j x hj hx => ?_, HBA.out⟩, by simp [intOf]; omega⟩
                  by_cases hji : j = i
                  · subst hji
                    obtain rfl := Option.some.inj (HX.out.symm.trans hx)
                    exact HNEW.out
                  · exact HPRE.out j x (by omega) hx
                · have n5 : 64 < s.size := by omega
                  have n5i : 64 < (s.size : Int) := by omega
                  have HF := hide (show ¬ tabOk P from fun h => k5 (h.2.2.2.1 (f, s) (List.mem_of_getElem? HX.out)).2.2)
                  clear k5
                  go_wp2_with fail
                  refine (inside_any _ _ _).mono ?_
                  rintro e w' ⟨rfl, rfl⟩
                  rw [hd4]
                  go_wp2_with fail
                  go_ret
                  exact ⟨⟨false, rfl, by simp only [Bool.false_eq_true, false_iff]; exact HF.out⟩, HB.out.trans (HBA.out.mono HB.out.size)⟩
              · have hd4 : decide (0 ≤ f ∧ f < (P.avgs.length : Int)) = false := by simpa using k4
                have HF := hide (show ¬ tabOk P from fun h => k4 ⟨(h.2.2.2.1 (f, s) (List.mem_of_getElem? HX.out)).1, (h.2.2.2.1 (f, s) (List.mem_of_getElem? HX.out)).2.1⟩)
                go_wp2_with fail
                refine (inside_any _ _ _).mono ?_
                rintro e w' ⟨rfl, rfl⟩
                rw [hd4]
                go_wp2_with fail
                go_ret
                exact ⟨⟨false, rfl, by simp only [Bool.false_eq_true, false_iff]; exact HF.out⟩, HB.out.trans (HBA.out.mono HB.out.size)⟩
            · obtain rfl : i = P.cur.length := by omega
              have HC := hide (show ∀ x ∈ P.cur, curOk P.avgs.length x from fun x hx => by
                obtain ⟨j, hj⟩ := List.mem_iff_getElem?.1 hx
                exact HPRE.out j x (List.getElem?_eq_some_iff.1 hj).1 hj)
              have HBC := hide HBW.out
              clear HPRE HBW
              have p2 := P2.out _ HBC.out
              go_wp2_with fail
              go_loopw [55] (fun c wr => ∃ i : Nat, i ≤ P.nears.length ∧ c = .int .i64 i ∧ (∀ j n, j < i → P.nears[j]? = some n → nrOk P.cur n) ∧ Below W.heap.size W wr) (fun c _ => P.nears.length - (intOf c).toNat)
              case atStart => exact ⟨0, by omega, rfl, fun j n hj _ => absurd hj (by omega), HBC.out⟩
              case round =>
                obtain ⟨i, hi, rfl, hpre, hb⟩ := hrel
                have HPRE := hide hpre
                have HBW := hide hb
                have hsw := hb.size
                clear hpre hb
                have p2 := P2.out _ HBW.out
                by_cases hlt : i < P.nears.length
                · obtain ⟨n, hn⟩ : ∃ x, P.nears[i]? = some x := ⟨_, List.getElem?_eq_getElem hlt⟩
                  have HNX := hide hn
                  have HL1 := hide (hL.cs n (List.mem_of_getElem? hn))
                  obtain ⟨an1, rfl, va, vb, hc0, hc1, hc2, hi1', hi2'⟩ := nrs_get (nrs_keep HP.out.nears HBW.out) hn
                  obtain ⟨as_, cs, rfl⟩ := ints_form hi1'
                  obtain ⟨ao, co, rfl⟩ := ints_form hi2'
                  have HI1 := hide hi1'
                  have HI2 := hide hi2'
                  have hin : (i : Int) < (P.nears.length : Int) := by omega
                  obtain ⟨sl, hsl⟩ : ∃ s, n.slop = s := ⟨_, rfl⟩
                  have HSL := hide hsl
                  rw [hsl] at hc2
                  have hq := (Below.refl wr.heap.size wr).alloc (Nat.le_refl _) (.cells #[.slice as_ n.cs.length cs, .slice ao n.os.length co, .int .i64 sl] 65)
                  have HBB := hide hq
                  have HBA := hide (HBW.out.trans (hq.mono hsw))
                  have p0 := P0.out _ HBA.out
                  have p1 := P1.out _ HBA.out
                  have p2' := P2.out _ HBA.out
                  have p3 := P3.out _ HBA.out
                  have p4 := P4.out _ HBA.out
                  have p5 := P5.out _ HBA.out
                  clear hi1' hi2' hn hsl hq
                  have HNC := hide (near_any _ aa ac (some an1) ad ab P.avgs.length P.nears.length P.drive.length P.code.length ca cc cn cd cb al P.cur (leafs_keep HP.out.cur HBA.out) as_ ao cs co n n.cs.length n.os.length rfl rfl (ints_keep HI1.out HBB.out) (ints_keep HI2.out HBB.out) HL1.out.1 HL1.out.2)
                  rw [HSL.out] at HNC
                  go_wp2_with fail
                  refine HNC.out.mono ?_
                  rintro e w3 ⟨⟨b, rfl, hbt⟩, hb3⟩
                  have HB3 := hide (HBA.out.trans (hb3.mono HBA.out.size))
                  have HBT := hide hbt
                  clear hb3 hbt
                  cases b with
                  | true =>
                    go_wp2_with fail
                    refine ⟨⟨i + 1, by omega, by simp, fun j x hj hx => ?_, HB3.out⟩, by simp [intOf]; omega⟩
                    by_cases hji : j = i
                    · subst hji
                      obtain rfl : n = x := Option.some.inj (HNX.out.symm.trans hx)
                      exact HBT.out.1 (by simp)
                    · exact HPRE.out j x (by omega) hx
                  | false =>
                    have HF := hide (show ¬ tabOk P from fun h => by
                      have h := HBT.out.2 (h.2.2.2.2.1 n (List.mem_of_getElem? HNX.out))
                      simp at h)
                    go_wp2_with fail
                    go_ret
                    exact ⟨⟨false, rfl, by simp only [Bool.false_eq_true, false_iff]; exact HF.out⟩, HB.out.trans (HB3.out.mono HB.out.size)⟩
                · skip
                  obtain rfl : i = P.nears.length := by omega
                  have HN := hide (show ∀ n ∈ P.nears, nrOk P.cur n from fun n hn => by
                    obtain ⟨j, hj⟩ := List.mem_iff_getElem?.1 hn
                    exact HPRE.out j n (List.getElem?_eq_some_iff.1 hj).1 hj)
                  have HBE := hide HBW.out
                  clear HPRE HBW
                  have p3 := P3.out _ HBE.out
                  have p4 := P4.out _ HBE.out
                  cases al with
                  | false =>
                    have HDR := hide (show P.all = true → P.drive = [] from fun h => by rw [HAL.out] at h; cases h)
                    go_wp2_with fail
                    go_loopw [75] (fun c wr => ∃ i : Nat, i ≤ P.drive.length ∧ c = .int .i64 i ∧ (∀ j, j < i → drvOk P.drive P.cur.length j) ∧ Below W.heap.size W wr) (fun c _ => P.drive.length - (intOf c).toNat)
                    case atStart => exact ⟨0, by omega, rfl, fun j hj => absurd hj (by omega), HBE.out⟩
                    case round =>
                      obtain ⟨i, hi, rfl, hpre, hb⟩ := hrel
                      have HPRE := hide hpre
                      have HBW := hide hb
                      clear hpre hb
                      have p0 := P0.out _ HBW.out
                      have p1 := P1.out _ HBW.out
                      have p4 := P4.out _ HBW.out
                      by_cases hlt : i < P.drive.length
                      · obtain ⟨d, hd⟩ : ∃ x, P.drive[i]? = some x := ⟨_, List.getElem?_eq_getElem hlt⟩
                        have HDX := hide (getD_of hd)
                        obtain ⟨ad1, rfl, hdc⟩ := ints_get (ints_keep HP.out.drive HBW.out) hd
                        have hi1 : (i : Int) < (P.drive.length : Int) := by omega
                        by_cases k4 : 0 ≤ d ∧ d < (P.cur.length : Int)
                        · have hd4 : decide (0 ≤ d ∧ d < (P.cur.length : Int)) = true := by simpa using k4
                          have n4 : ¬ d < 0 := by omega
                          have n4b : ¬ (P.cur.length : Int) ≤ d := by omega
                          have n4c : decide (d < 0) = false := by simpa using n4
                          have n4d : decide ((P.cur.length : Int) ≤ d) = false := by simpa using n4b
                          have K4 := hide k4
                          clear k4
                          by_cases h0 : i = 0
                          · have n0 : ¬ 0 < (i : Int) := by omega
                            have n0n : decide (0 < i) = false := by simpa using h0
                            have n0m : decide (0 < (i : Int)) = false := by simpa using h0
                            have HNEW := hide (show drvOk P.drive P.cur.length i from ⟨by rw [HDX.out]; exact K4.out.1, by rw [HDX.out]; exact K4.out.2, fun h => absurd h (by omega)⟩)
                            have H0 := hide h0
                            clear hd h0
                            go_wp2_with fail
                            refine (inside_any _ _ _).mono ?_
                            rintro e w' ⟨rfl, rfl⟩
                            rw [hd4]
                            go_wp2_with fail
                            refine ⟨⟨i + 1, by omega, by simp, fun j hj => ?_, HBW.out⟩, by simp [intOf]; omega⟩
                            have := H0.out
                            obtain rfl : j = i := by omega
                            exact HNEW.out
                          · obtain ⟨k, hk⟩ : ∃ k, i = k + 1 := ⟨i - 1, by omega⟩
                            obtain ⟨d0, hd0⟩ : ∃ x, P.drive[k]? = some x := ⟨_, List.getElem?_eq_getElem (by omega)⟩
                            have HD0 := hide (getD_of hd0)
                            obtain ⟨ad2, he, hdc0⟩ := ints_get (ints_keep HP.out.drive HBW.out) hd0
                            obtain rfl := Option.some.inj he
                            have hkd : k < P.drive.length := by omega
                            have hk1 : 0 < (i : Int) := by omega
                            have hk1n : 0 < i := by omega
                            have hk1o : decide (0 < i) = true := by simpa using hk1n
                            have hk1p : decide (0 < (i : Int)) = true := by simpa using hk1n
                            have hw1 : IntKind.i64.wrap ((i : Int) - 1) = (k : Int) := by rw [IntKind.wrap_i64]; omega
                            have HK := hide hk
                            clear hd0 he hd hk h0
                            by_cases k6 : d0 < d
                            · have n6 : ¬ d ≤ d0 := by omega
                              have n6b : decide (d ≤ d0) = false := by simpa using n6
                              have HNEW := hide (show drvOk P.drive P.cur.length i from ⟨by rw [HDX.out]; exact K4.out.1, by rw [HDX.out]; exact K4.out.2, fun _ => by rw [HDX.out, HK.out, Nat.add_sub_cancel, HD0.out]; exact k6⟩)
                              clear k6
                              go_wp2_with fail
                              refine (inside_any _ _ _).mono ?_
                              rintro e w' ⟨rfl, rfl⟩
                              rw [hd4]
                              go_wp2_with fail
                              refine ⟨⟨i + 1, by omega, by simp, fun j hj => ?_, HBW.out⟩, by simp [intOf]; omega⟩
                              by_cases hji : j = i
                              · subst hji; exact HNEW.out
                              · exact HPRE.out j (by omega)
                            · have n6 : d ≤ d0 := by omega
                              have n6b : decide (d ≤ d0) = true := by simpa using n6
                              have HF := hide (show ¬ tabOk P from fun h => by
                                have h := (h.2.2.2.2.2.2 i hlt).2.2 (by omega)
                                rw [HDX.out, HK.out, Nat.add_sub_cancel, HD0.out] at h
                                exact k6 h)
                              clear k6
                              go_wp2_with fail
                              refine (inside_any _ _ _).mono ?_
                              rintro e w' ⟨rfl, rfl⟩
                              rw [hd4]
                              go_wp2_with fail
                              go_ret
                              exact ⟨⟨false, rfl, by simp only [Bool.false_eq_true, false_iff]; exact HF.out⟩, HB.out.trans (HBW.out.mono HB.out.size)⟩
                        · have hd4 : decide (0 ≤ d ∧ d < (P.cur.length : Int)) = false := by simpa using k4
                          have HF := hide (show ¬ tabOk P from fun h => by
                            have h := h.2.2.2.2.2.2 i hlt
                            rw [drvOk, HDX.out] at h
                            exact k4 ⟨h.1, h.2.1⟩)
                          clear hd
                          go_wp2_with fail
                          refine (inside_any _ _ _).mono ?_
                          rintro e w' ⟨rfl, rfl⟩
                          rw [hd4]
                          go_wp2_with fail
                          go_ret
                          exact ⟨⟨false, rfl, by simp only [Bool.false_eq_true, false_iff]; exact HF.out⟩, HB.out.trans (HBW.out.mono HB.out.size)⟩
                      · obtain rfl : i = P.drive.length := by omega
                        have HT := hide (show tabOk P from ⟨k1, k2, HA.out, HC.out, HN.out, HDR.out, HPRE.out⟩)
                        go_wp2_with fail
                        go_ret
                        exact ⟨⟨true, rfl, by simp only [true_iff]; exact HT.out⟩, HB.out.trans (HBW.out.mono HB.out.size)⟩
                  | true =>
                    by_cases k5 : P.drive.length = 0
                    · have HDR := hide (show P.all = true → P.drive = [] from fun _ => List.eq_nil_of_length_eq_zero k5)
                      have k5i : ¬ 0 < (P.drive.length : Int) := by omega
                      have k5n : ¬ 0 < P.drive.length := by omega
                      have k5m : P.drive = [] := List.eq_nil_of_length_eq_zero k5
                      have HT := hide (show tabOk P from ⟨k1, k2, HA.out, HC.out, HN.out, HDR.out, fun k hk => absurd hk (by omega)⟩)
                      clear k5 k5m
                      go_wp2_with fail
                      refine wp_loop_rounds 1 ?_
                      rw [rounds_succ]
                      go_wp2_with fail
                      go_ret
                      exact ⟨⟨true, rfl, by simp only [true_iff]; exact HT.out⟩, HB.out.trans (HBE.out.mono HB.out.size)⟩
                    · have k5i : 0 < (P.drive.length : Int) := by omega
                      have k5n : 0 < P.drive.length := by omega
                      have HF := hide (show ¬ tabOk P from fun h => k5 (by rw [h.2.2.2.2.2.1 HAL.out]; rfl))
                      go_wp2_with fail
                      go_ret
                      exact ⟨⟨false, rfl, by simp only [Bool.false_eq_true, false_iff]; exact HF.out⟩, HB.out.trans (HBE.out.mono HB.out.size)⟩
    · have k2i : 16 < (P.avgs.length : Int) := by omega
      have k2n : 16 < P.avgs.length := by omega
      have HF := hide (show ¬ tabOk P from fun h => k2 h.2.1)
      go_enter Tryd.func36, Tryd.ntmps36
      go_wp2_with fail
      go_ret
      exact ⟨⟨false, rfl, by simp only [Bool.false_eq_true, false_iff]; exact HF.out⟩, HB.out⟩
  · have k1i : (P.avgs.length : Int) < 1 := by omega
    have k1n : P.avgs.length < 1 := by omega
    have HF := hide (show ¬ tabOk P from fun h => k1 h.1)
    go_enter Tryd.func36, Tryd.ntmps36
    go_wp2_with fail
    go_ret
    exact ⟨⟨false, rfl, by simp only [Bool.false_eq_true, false_iff]; exact HF.out⟩, HB.out⟩
end Go.Proofs.YtbimpoabiafdaaaDoor
