/- the law's tables -/
import Derived.Test.YtbimpoabiafdaaaDoorNr
import Derived.Deep.RegionWith
namespace Go.Proofs.YtbimpoabiafdaaaDoor
open Go.RowKit Vf
section
variable {A : Prop} {B : Nat → Prop} {i : Nat}
theorem pre_zero {b : Bool} (h : b = true ↔ A) : b = true ↔ A ∧ ∀ j, j < 0 → B j := ⟨fun k => ⟨h.1 k, fun j hj => absurd hj (by omega)⟩, fun k => h.2 k.1⟩
theorem pre_off (h : false = true ↔ A ∧ ∀ j, j < i → B j) : false = true ↔ A ∧ ∀ j, j < i + 1 → B j := ⟨fun k => (by cases k), fun k => h.2 ⟨k.1, fun j hj => k.2 j (by omega)⟩⟩
theorem pre_on (h : true = true ↔ A ∧ ∀ j, j < i → B j) (hb : B i) : true = true ↔ A ∧ ∀ j, j < i + 1 → B j := ⟨fun _ => ⟨(h.1 rfl).1, fun j hj => by
  by_cases e : j = i
  · subst e; exact hb
  · exact (h.1 rfl).2 j (by omega)⟩, fun _ => rfl⟩
theorem pre_on2 (h : A ∧ ∀ j, j < i → B j) (hb : B i) : true = true ↔ A ∧ ∀ j, j < i + 1 → B j := pre_on ⟨fun _ => h, fun _ => rfl⟩ hb
theorem pre_bad (hb : ¬ B i) : false = true ↔ A ∧ ∀ j, j < i + 1 → B j := ⟨fun k => (by cases k), fun k => absurd (k.2 i (by omega)) hb⟩
end
def PreA (P : Prg) (i : Nat) : Prop := (1 ≤ P.avgs.length ∧ P.avgs.length ≤ 16 ∧ (P.all = true → P.drive = [])) ∧ ∀ j, j < i → ∀ x, P.avgs[j]? = some x → 0 ≤ x
def PreC (P : Prg) (i : Nat) : Prop := PreA P P.avgs.length ∧ ∀ j, j < i → ∀ x, P.cur[j]? = some x → curOk P.avgs.length x
def PreD (P : Prg) (i : Nat) : Prop := PreC P P.cur.length ∧ ∀ j, j < i → drvOk P.drive P.cur.length j
def PreN (P : Prg) (i : Nat) : Prop := PreD P P.drive.length ∧ ∀ j, j < i → ∀ x, P.nears[j]? = some x → nrOk P.cur x
theorem pre_all (P : Prg) : PreN P P.nears.length ↔ tabOk P := by
  constructor
  · rintro ⟨⟨⟨⟨⟨h1, h2, h3⟩, ha⟩, hc⟩, hd⟩, hn⟩
    refine ⟨h1, h2, fun a h => ?_, fun x h => ?_, fun n h => ?_, h3, hd⟩
    · obtain ⟨j, hj⟩ := List.mem_iff_getElem?.1 h; exact ha j (get_lt hj) a hj
    · obtain ⟨j, hj⟩ := List.mem_iff_getElem?.1 h; exact hc j (get_lt hj) x hj
    · obtain ⟨j, hj⟩ := List.mem_iff_getElem?.1 h; exact hn j (get_lt hj) n hj
  · rintro ⟨h1, h2, ha, hc, hn, h3, hd⟩
    exact ⟨⟨⟨⟨⟨h1, h2, h3⟩, fun j _ x hx => ha x (List.mem_of_getElem? hx)⟩, fun j _ x hx => hc x (List.mem_of_getElem? hx)⟩, hd⟩, fun j _ x hx => hn x (List.mem_of_getElem? hx)⟩
/-- a phrase's head is good -/
def nrHd (n : Nr) : Prop := 1 ≤ n.cs.length ∧ n.cs.length = n.os.length ∧ 0 ≤ n.slop ∧ n.slop < 2147483647
theorem nr_hd (n : Nr) (cur : List (Int × ByteArray)) : nrOk cur n ↔ nrHd n ∧ ∀ i, i < n.cs.length → nrOk1 cur n i := by
  unfold nrOk nrHd
  constructor
  · rintro ⟨h1, h2, h3, h4, h5⟩; exact ⟨⟨h1, h2.symm, h3, h4⟩, h5⟩
  · rintro ⟨⟨h1, h2, h3, h4⟩, h5⟩; exact ⟨h1, h2.symm, h3, h4, h5⟩
/-- the number ahead of place k of the drive -/
def lastOf (l : List Int) (k : Nat) : Int := if k = 0 then -1 else l.getD (k - 1) 0
theorem last_step {l : List Int} {i : Nat} {x : Int} (hx : l[i]? = some x) : lastOf l (i + 1) = x := by
  unfold lastOf
  rw [if_neg (by omega), Nat.add_sub_cancel]
  exact getD_of hx
theorem drv_step {l : List Int} {m i : Nat} {x : Int} (hx : l[i]? = some x) (hpre : ∀ j, j < i → drvOk l m j) : drvOk l m i ↔ lastOf l i < x ∧ x < m := by
  unfold drvOk lastOf
  rw [getD_of hx]
  by_cases h0 : i = 0
  · subst h0
    rw [if_pos rfl]
    constructor
    · rintro ⟨h1, h2, _⟩; exact ⟨by omega, h2⟩
    · rintro ⟨h1, h2⟩; exact ⟨by omega, h2, fun h => absurd h (by omega)⟩
  · rw [if_neg h0]
    have := (hpre (i - 1) (by omega)).1
    constructor
    · rintro ⟨h1, h2, h3⟩; exact ⟨h3 (by omega), h2⟩
    · rintro ⟨h1, h2⟩; exact ⟨by omega, h2, fun _ => h1⟩
set_option maxRecDepth 100000 in
set_option maxHeartbeats 16000000 in
theorem law_tables_any (w : World) (aa ac an ad ab : Option Addr) (ca cc cn cd cb : Nat) (al : Bool) (P : Prg) (hal : P.all = al)
    (hP : PrgAt w (.slice aa P.avgs.length ca) (.slice ac P.cur.length cc) (.slice an P.nears.length cn) (.slice ad P.drive.length cd) (.slice ab P.code.length cb) P) (hL : Little P 1099511627776) :
    Calls Tryd.prog 19 #[.agg #[.slice aa P.avgs.length ca, .slice ac P.cur.length cc, .slice an P.nears.length cn, .bool al, .slice ad P.drive.length cd, .slice ab P.code.length cb]] w fun e w' => BoolOut (tabOk P) e ∧ Below w.heap.size w w' := by
  have hq1 := (Below.refl w.heap.size w).alloc (Nat.le_refl _) (.cells #[.slice aa P.avgs.length ca, .slice ac P.cur.length cc, .slice an P.nears.length cn, .bool al, .slice ad P.drive.length cd, .slice ab P.code.length cb] 27)
  have HP := hide (hP.keep hq1)
  have HB := hide hq1
  have HAL := hide hal
  have HL := hide hL
  have HH := hide (heap_new (w := w) rfl (.cells #[.slice aa P.avgs.length ca, .slice ac P.cur.length cc, .slice an P.nears.length cn, .bool al, .slice ad P.drive.length cd, .slice ab P.code.length cb] 27))
  have l1 := hL.avgs
  have l2 := hL.cur
  have l3 := hL.nears
  have l4 := hL.drive
  clear hq1 hP hal hL
  go_enter Tryd.func19, Tryd.ntmps19
  go_upto_region 1 with (fail)
  generalize w.alloc (.cells #[.slice aa P.avgs.length ca, .slice ac P.cur.length cc, .slice an P.nears.length cn, .bool al, .slice ad P.drive.length cd, .slice ab P.code.length cb] 27) = W at *
  have hsW := HB.out.size
  obtain ⟨p0, p1, p2, p3, p4, p5⟩ := cells6 HH.out
  have P0 := hide fun w1 (h : Below W.heap.size W w1) => lt_keep p0 h
  have P1 := hide fun w1 (h : Below W.heap.size W w1) => lt_keep p1 h
  have P2 := hide fun w1 (h : Below W.heap.size W w1) => lt_keep p2 h
  have P4 := hide fun w1 (h : Below W.heap.size W w1) => lt_keep p4 h
  go_cut [3] (fun s wx => (∃ b, s = .bool b ∧ (b = true ↔ (1 ≤ P.avgs.length ∧ P.avgs.length ≤ 16 ∧ (P.all = true → P.drive = [])))) ∧ W = wx)
  case first =>
    by_cases k1 : 1 ≤ P.avgs.length
    · have k1i : 1 ≤ (P.avgs.length : Int) := by omega
      by_cases k2 : P.avgs.length ≤ 16
      · have k2i : (P.avgs.length : Int) ≤ 16 := by omega
        cases al with
        | false =>
          go_wp2_with fail
          go_meet
          exact ⟨⟨true, rfl, fun _ => ⟨k1, k2, fun h => by rw [HAL.out] at h; cases h⟩, fun _ => rfl⟩, rfl⟩
        | true =>
          by_cases k3 : P.drive.length = 0
          · have k3i : ((P.drive.length : Int) == 0) = true := by simp; exact List.eq_nil_of_length_eq_zero k3
            have k3j : P.drive = [] := List.eq_nil_of_length_eq_zero k3
            go_wp2_with fail
            go_meet
            exact ⟨⟨_, rfl, by simp [k1, k2, k3j]⟩, rfl⟩
          · have k3i : ((P.drive.length : Int) == 0) = false := by simp; intro h; exact k3 (by rw [h]; rfl)
            have k3j : ¬ P.drive = [] := fun h => k3 (by rw [h]; rfl)
            have K3 := hide k3j
            go_wp2_with fail
            go_meet
            exact ⟨⟨_, rfl, by simp [HAL.out, K3.out]⟩, rfl⟩
      · have k2i : ¬ (P.avgs.length : Int) ≤ 16 := by omega
        go_wp2_with fail
        go_meet
        exact ⟨⟨_, rfl, by simp [k2]⟩, rfl⟩
    · have k1i : ¬ 1 ≤ (P.avgs.length : Int) := by omega
      go_wp2_with fail
      go_meet
      exact ⟨⟨_, rfl, by simp [k1]⟩, rfl⟩
  case rest =>
  obtain ⟨⟨b0, rfl, hb0⟩, rfl⟩ := hcut
  have HB0 := hide hb0
  clear hb0
  go_wp2_with fail
  go_loopw [3, 39] (fun s c wr => ∃ (i : Nat) (b : Bool), s = .bool b ∧ c = .int .i64 i ∧ i ≤ P.avgs.length ∧ (b = true ↔ PreA P i) ∧ W = wr) (fun _ c _ => P.avgs.length - (intOf c).toNat)
  case atStart => exact ⟨0, b0, rfl, rfl, by omega, pre_zero HB0.out, rfl⟩
  case round =>
    obtain ⟨i, b, rfl, rfl, hi, hb, rfl⟩ := hrel
    have HB1 := hide hb
    clear hb
    by_cases hlt : i < P.avgs.length
    · have hi1 : (i : Int) < (P.avgs.length : Int) := by omega
      obtain ⟨x, hx⟩ : ∃ x, P.avgs[i]? = some x := ⟨_, List.getElem?_eq_getElem hlt⟩
      obtain ⟨ad1, rfl, hc1⟩ := ints_get HP.out.avgs hx
      have HX := hide hx
      clear hx
      cases b with
      | false =>
        go_wp2_with fail
        exact ⟨⟨i + 1, false, rfl, by simp, by omega, pre_off HB1.out, by first | rfl | trivial⟩, by simp [intOf]; omega⟩
      | true =>
        by_cases k : 0 ≤ x
        · go_wp2_with fail
          exact ⟨⟨i + 1, true, rfl, by simp, by omega, pre_on HB1.out (fun y hy => by rw [HX.out] at hy; obtain rfl := Option.some.inj hy; exact k), by first | rfl | trivial⟩, by simp [intOf]; omega⟩
        · go_wp2_with fail
          exact ⟨⟨i + 1, false, rfl, by simp, by omega, pre_bad (fun h => k (h x HX.out)), by first | rfl | trivial⟩, by simp [intOf]; omega⟩
    · obtain rfl : i = P.avgs.length := by omega
      go_wp2_with fail
      go_loopw [3, 52] (fun s c wr => ∃ (i : Nat) (b : Bool), s = .bool b ∧ c = .int .i64 i ∧ i ≤ P.cur.length ∧ (b = true ↔ PreC P i) ∧ Below W.heap.size W wr) (fun _ c _ => P.cur.length - (intOf c).toNat)
      case atStart => exact ⟨0, b, rfl, rfl, by omega, pre_zero HB1.out, Below.refl _ _⟩
      case round =>
        obtain ⟨i, b, rfl, rfl, hi, hb, hbw⟩ := hrel
        have HB1 := hide hb
        have HBW := hide hbw
        have p0 := P0.out _ hbw
        have p1 := P1.out _ hbw
        have p2 := P2.out _ hbw
        have p4 := P4.out _ hbw
        clear hb hbw
        by_cases hlt : i < P.cur.length
        · have hi1 : (i : Int) < (P.cur.length : Int) := by omega
          obtain ⟨x, hx⟩ : ∃ x, P.cur[i]? = some x := ⟨_, List.getElem?_eq_getElem hlt⟩
          obtain ⟨ad1, rfl, hc1, hd1⟩ := leafs_get (HP.out.keep HBW.out).cur hx
          have HX := hide hx
          have hxs := HL.out.ch x (List.mem_of_getElem? hx)
          clear hx
          obtain ⟨f, s⟩ := x
          simp only at hc1 hd1 hxs
          cases b with
          | false =>
            go_wp2_with fail
            exact ⟨⟨i + 1, false, rfl, by simp, by omega, pre_off HB1.out, HBW.out.alloc HBW.out.size _⟩, by simp [intOf]; omega⟩
          | true =>
            have HBn := hide (HBW.out.alloc HBW.out.size (.cells #[.int .i64 f, .string s] 63))
            have hn := heap_new (w := wr) rfl (.cells #[.int .i64 f, .string s] 63)
            have p0 := P0.out _ HBn.out
            obtain ⟨q0, q1⟩ := cells2 hn
            go_upto_region 10 with (fail)
            generalize wr.alloc (.cells #[.int .i64 f, .string s] 63) = W2 at *
            by_cases k1 : 0 ≤ f
            · by_cases k2 : f < (P.avgs.length : Int)
              · by_cases k3 : s.size ≤ 64
                · have k3i : (s.size : Int) ≤ 64 := by omega
                  go_wp2_with fail
                  exact ⟨⟨i + 1, true, rfl, by simp, by omega, pre_on HB1.out (fun y hy => by rw [HX.out] at hy; obtain rfl := Option.some.inj hy; exact ⟨k1, k2, k3⟩), HBn.out⟩, by simp [intOf]; omega⟩
                · have k3i : ¬ (s.size : Int) ≤ 64 := by omega
                  go_wp2_with fail
                  exact ⟨⟨i + 1, false, rfl, by simp, by omega, pre_bad (fun h => k3 (h _ HX.out).2.2), HBn.out⟩, by simp [intOf]; omega⟩
              · go_wp2_with fail
                exact ⟨⟨i + 1, false, rfl, by simp, by omega, pre_bad (fun h => k2 (h _ HX.out).2.1), HBn.out⟩, by simp [intOf]; omega⟩
            · go_wp2_with fail
              exact ⟨⟨i + 1, false, rfl, by simp, by omega, pre_bad (fun h => k1 (h _ HX.out).1), HBn.out⟩, by simp [intOf]; omega⟩
        · obtain rfl : i = P.cur.length := by omega
          go_wp2_with fail
          go_loopw [3, 8, 80] (fun s l c wr => ∃ (i : Nat) (b : Bool), s = .bool b ∧ l = .int .i64 (lastOf P.drive i) ∧ c = .int .i64 i ∧ i ≤ P.drive.length ∧ (b = true ↔ PreD P i) ∧ Below W.heap.size W wr) (fun _ _ c _ => P.drive.length - (intOf c).toNat)
          case atStart => exact ⟨0, b, rfl, rfl, rfl, by omega, pre_zero HB1.out, HBW.out⟩
          case round =>
            obtain ⟨i, b, rfl, rfl, rfl, hi, hb, hbw⟩ := hrel
            have HB1 := hide hb
            have HBW := hide hbw
            have p0 := P0.out _ hbw
            have p1 := P1.out _ hbw
            have p2 := P2.out _ hbw
            have p4 := P4.out _ hbw
            clear hb hbw
            by_cases hlt : i < P.drive.length
            · have hi1 : (i : Int) < (P.drive.length : Int) := by omega
              obtain ⟨x, hx⟩ : ∃ x, P.drive[i]? = some x := ⟨_, List.getElem?_eq_getElem hlt⟩
              obtain ⟨ad1, rfl, hc1⟩ := ints_get (HP.out.keep HBW.out).drive hx
              have HX := hide (last_step hx)
              have HS := hide (fun h => drv_step (m := P.cur.length) hx h)
              generalize lastOf P.drive i = v at HS ⊢
              clear hx
              cases b with
              | false =>
                go_wp2_with fail
                exact ⟨⟨i + 1, false, rfl, by rw [HX.out], by simp, by omega, pre_off HB1.out, HBW.out⟩, by simp [intOf]; omega⟩
              | true =>
                by_cases k1 : v < x
                · by_cases k2 : x < (P.cur.length : Int)
                  · go_wp2_with fail
                    exact ⟨⟨i + 1, true, rfl, by rw [HX.out], by simp, by omega, pre_on HB1.out ((HS.out (HB1.out.1 rfl).2).2 ⟨k1, k2⟩), HBW.out⟩, by simp [intOf]; omega⟩
                  · go_wp2_with fail
                    exact ⟨⟨i + 1, false, rfl, by rw [HX.out], by simp, by omega, pre_bad (fun h => k2 ((HS.out (HB1.out.1 rfl).2).1 h).2), HBW.out⟩, by simp [intOf]; omega⟩
                · go_wp2_with fail
                  exact ⟨⟨i + 1, false, rfl, by rw [HX.out], by simp, by omega, pre_bad (fun h => k1 ((HS.out (HB1.out.1 rfl).2).1 h).1), HBW.out⟩, by simp [intOf]; omega⟩
            · obtain rfl : i = P.drive.length := by omega
              generalize lastOf P.drive P.drive.length = v
              go_wp2_with fail
              go_loopw [3, 102] (fun s c wr => ∃ (i : Nat) (b : Bool), s = .bool b ∧ c = .int .i64 i ∧ i ≤ P.nears.length ∧ (b = true ↔ PreN P i) ∧ Below W.heap.size W wr) (fun _ c _ => P.nears.length - (intOf c).toNat)
              case atStart => exact ⟨0, b, rfl, rfl, by omega, pre_zero HB1.out, HBW.out⟩
              case round =>
                obtain ⟨i, b, rfl, rfl, hi, hb, hbw⟩ := hrel
                have HB1 := hide hb
                have HBW := hide hbw
                have p0 := P0.out _ hbw
                have p1 := P1.out _ hbw
                have p2 := P2.out _ hbw
                have p4 := P4.out _ hbw
                clear hb hbw
                by_cases hlt : i < P.nears.length
                · have hi1 : (i : Int) < (P.nears.length : Int) := by omega
                  obtain ⟨n, hx⟩ : ∃ x, P.nears[i]? = some x := ⟨_, List.getElem?_eq_getElem hlt⟩
                  obtain ⟨ad1, rfl, va1, vb1, hc1, hd1, he1, hf1, hg1⟩ := nrs_get (HP.out.keep HBW.out).nears hx
                  obtain ⟨x1, y1, rfl⟩ := ints_form hf1
                  obtain ⟨x2, y2, rfl⟩ := ints_form hg1
                  obtain ⟨hl1, hl2⟩ := HL.out.cs n (List.mem_of_getElem? hx)
                  have HX := hide hx
                  have hq := HBW.out.alloc HBW.out.size (.cells #[.slice x1 n.cs.length y1, .slice x2 n.os.length y2, .int .i64 n.slop] 65)
                  have hqw := (Below.refl wr.heap.size wr).alloc (Nat.le_refl _) (.cells #[.slice x1 n.cs.length y1, .slice x2 n.os.length y2, .int .i64 n.slop] 65)
                  have HF := hide (ints_keep hf1 hqw)
                  have HG := hide (ints_keep hg1 hqw)
                  have HBn := hide hq
                  have HC := hide (leafs_keep (HP.out.keep HBW.out).cur hqw)
                  have hn := heap_new (w := wr) rfl (.cells #[.slice x1 n.cs.length y1, .slice x2 n.os.length y2, .int .i64 n.slop] 65)
                  have p0 := P0.out _ HBn.out
                  have p1 := P1.out _ HBn.out
                  have p2 := P2.out _ HBn.out
                  have p4 := P4.out _ HBn.out
                  obtain ⟨q0, q1, q2⟩ := cells3 hn
                  clear hx hq hqw hf1 hg1 hn
                  go_upto_region 22 with (fail)
                  generalize wr.alloc (.cells #[.slice x1 n.cs.length y1, .slice x2 n.os.length y2, .int .i64 n.slop] 65) = W2 at *
                  go_cut [3] (fun s wx => (∃ b, s = .bool b ∧ (b = true ↔ (PreN P i ∧ nrHd n))) ∧ W2 = wx)
                  case first =>
                    cases b with
                    | false =>
                      go_wp2_with fail
                      go_meet
                      exact ⟨⟨false, rfl, ⟨fun k => (by cases k), fun k => HB1.out.2 k.1⟩⟩, by first | rfl | trivial⟩
                    | true =>
                      have HT1 := hide (HB1.out.1 rfl)
                      by_cases k1 : 0 < n.cs.length
                      · have k1i : 0 < (n.cs.length : Int) := by omega
                        by_cases k2 : n.cs.length = n.os.length
                        · have k2i : ((n.cs.length : Int) == (n.os.length : Int)) = true := by simp; omega
                          have K2 := hide k2
                          clear k2
                          by_cases k3 : 0 ≤ n.slop
                          · by_cases k4 : n.slop < 2147483647
                            · go_wp2_with fail
                              go_meet
                              exact ⟨⟨true, rfl, fun _ => ⟨HT1.out, k1, K2.out, k3, k4⟩, fun _ => rfl⟩, by first | rfl | trivial⟩
                            · go_wp2_with fail
                              go_meet
                              exact ⟨⟨false, rfl, ⟨fun k => (by cases k), fun k => absurd k.2.2.2.2 (by omega)⟩⟩, by first | rfl | trivial⟩
                          · go_wp2_with fail
                            go_meet
                            exact ⟨⟨false, rfl, ⟨fun k => (by cases k), fun k => absurd k.2.2.2.1 (by omega)⟩⟩, by first | rfl | trivial⟩
                        · have k2i : ((n.cs.length : Int) == (n.os.length : Int)) = false := by simp; omega
                          go_wp2_with fail
                          go_meet
                          exact ⟨⟨false, rfl, ⟨fun k => (by cases k), fun k => absurd k.2.2.1 k2⟩⟩, by first | rfl | trivial⟩
                      · have k1i : ¬ 0 < (n.cs.length : Int) := by omega
                        go_wp2_with fail
                        go_meet
                        exact ⟨⟨false, rfl, ⟨fun k => (by cases k), fun k => absurd k.2.1 k1⟩⟩, by first | rfl | trivial⟩
                  case rest =>
                  obtain ⟨⟨b1, rfl, hb1⟩, rfl⟩ := hcut
                  have HB2 := hide hb1
                  clear hb1
                  go_wp2_with fail
                  go_loopw [3, 13] (fun s c wr => ∃ (j : Nat) (b : Bool), s = .bool b ∧ c = .int .i64 j ∧ j ≤ n.cs.length ∧ (b = true ↔ ((PreN P i ∧ nrHd n) ∧ ∀ k, k < j → nrOk1 P.cur n k)) ∧ ∃ q, wr = W2.drewN q) (fun _ c _ => n.cs.length - (intOf c).toNat)
                  case atStart => exact ⟨0, b1, rfl, rfl, by omega, pre_zero HB2.out, 0, rfl⟩
                  case round => as_aux_lemma =>
                    obtain ⟨j, b, rfl, rfl, hj, hb, q, rfl⟩ := hrel
                    have HB3 := hide hb
                    clear hb
                    cases b with
                    | false =>
                      have hlen := hl1
                      go_wp2_with fail
                      refine ⟨⟨i + 1, false, rfl, by simp, by omega, ⟨fun k => (by cases k), fun k => ?_⟩, below_drewN HBn.out _⟩, by simp [intOf]; omega⟩
                      have hn := (nr_hd n P.cur).1 (k.2 i (by omega) n HX.out)
                      have h3 := HB3.out.2 ⟨⟨⟨k.1, fun j hj => k.2 j (by omega)⟩, hn.1⟩, fun k' hk => hn.2 k' (by omega)⟩
                      simp at h3
                    | true =>
                      have HT3 := hide (HB3.out.1 rfl)
                      by_cases hjl : j < n.cs.length
                      · have hj1 : (j : Int) < (n.cs.length : Int) := by omega
                        have hh := HT3.out.1.2
                        obtain ⟨c, hc⟩ : ∃ x, n.cs[j]? = some x := ⟨_, List.getElem?_eq_getElem hjl⟩
                        have hjo : j < n.os.length := by rw [← hh.2.1]; exact hjl
                        obtain ⟨o, ho⟩ : ∃ x, n.os[j]? = some x := ⟨_, List.getElem?_eq_getElem hjo⟩
                        obtain ⟨c0, hc0⟩ : ∃ x, n.cs[0]? = some x := ⟨_, List.getElem?_eq_getElem (by omega)⟩
                        obtain ⟨as1, rfl, hcc⟩ := ints_get HF.out hc
                        obtain ⟨ao1, rfl, hoc⟩ := ints_get HG.out ho
                        obtain ⟨as2, he, hcc0⟩ := ints_get HF.out hc0
                        obtain rfl := Option.some.inj he
                        rw [Addr.add_zero'] at hcc0
                        have HC1 := hide (getD_of hc)
                        have HO1 := hide (getD_of ho)
                        have HC0 := hide (getD_of hc0)
                        have HNE := hide (show j = 0 → c = c0 from fun h => by subst h; exact Option.some.inj (hc.symm.trans hc0))
                        have hjo1 : (j : Int) < (n.os.length : Int) := by omega
                        have hl0 : 0 < n.cs.length := by omega
                        clear hc ho hc0 he hh
                        by_cases k1 : 0 ≤ c
                        · by_cases k2 : c < (P.cur.length : Int)
                          · by_cases k3 : 0 ≤ o
                            · by_cases k4 : o < 2147483647
                              · have h00 : 0 ≤ c0 ∧ c0 < (P.cur.length : Int) := by
                                  by_cases h0 : j = 0
                                  · rw [← HNE.out h0]; exact ⟨k1, k2⟩
                                  · have h := HT3.out.2 0 (by omega)
                                    have e := HC0.out
                                    rw [nrOk1, e] at h
                                    exact ⟨h.1, h.2.1⟩
                                obtain ⟨ck, rfl⟩ := Int.eq_ofNat_of_zero_le k1
                                have hckl : ck < P.cur.length := by omega
                                obtain ⟨k0, rfl⟩ := Int.eq_ofNat_of_zero_le h00.1
                                have hk0l : k0 < P.cur.length := by omega
                                have hck0 : (0 : Int) ≤ (k0 : Int) := h00.1
                                have hck1 : (k0 : Int) < (P.cur.length : Int) := h00.2
                                obtain ⟨x, hx⟩ : ∃ x, P.cur[ck]? = some x := ⟨_, List.getElem?_eq_getElem hckl⟩
                                obtain ⟨y, hy⟩ : ∃ x, P.cur[k0]? = some x := ⟨_, List.getElem?_eq_getElem hk0l⟩
                                obtain ⟨ac1, rfl, hxc, _⟩ := leafs_get HC.out hx
                                obtain ⟨ac2, he, hyc, _⟩ := leafs_get HC.out hy
                                obtain rfl := Option.some.inj he
                                have HXX := hide (fieldOf_of hx)
                                have HY := hide (fieldOf_of hy)
                                obtain ⟨fx, hfx⟩ : ∃ f, x.1 = f := ⟨_, rfl⟩
                                obtain ⟨fy, hfy⟩ : ∃ f, y.1 = f := ⟨_, rfl⟩
                                rw [hfx] at hxc HXX
                                rw [hfy] at hyc HY
                                clear hx hy he hfx hfy h00
                                by_cases k6 : fx = fy
                                · subst k6
                                  have HNEW := hide (show nrOk1 P.cur n j from by rw [nrOk1, HC1.out, HO1.out, HC0.out]; exact ⟨k1, k2, k3, k4, HXX.out.trans HY.out.symm⟩)
                                  go_wp2_with fail
                                  go_quiet (fail)
                                  go_wp2_with fail
                                  exact ⟨⟨j + 1, true, rfl, by simp, by omega, pre_on2 HT3.out HNEW.out, q + nq, by first | rfl | rw [World.drewN_drewN]⟩, by simp [intOf]; omega⟩
                                · have e6 : (fx == fy) = false := by simpa using k6
                                  have e6b : (fx = fy) = False := by simpa using k6
                                  have HNB := hide (show ¬ nrOk1 P.cur n j from fun h => by
                                    have h := h.2.2.2.2
                                    rw [HC1.out, HC0.out] at h
                                    exact k6 (HXX.out.symm.trans (h.trans HY.out)))
                                  clear k6
                                  go_wp2_with fail
                                  go_quiet (fail)
                                  go_wp2_with fail
                                  exact ⟨⟨j + 1, false, rfl, by simp, by omega, pre_bad (fun h => HNB.out h), q + nq, by first | rfl | rw [World.drewN_drewN]⟩, by simp [intOf]; omega⟩
                              · go_wp2_with fail
                                go_quiet (fail)
                                go_wp2_with fail
                                exact ⟨⟨j + 1, false, rfl, by simp, by omega, pre_bad (fun h => by have h := h.2.2.2.1; rw [HO1.out] at h; omega), q + nq, by first | rfl | rw [World.drewN_drewN]⟩, by simp [intOf]; omega⟩
                            · go_wp2_with fail
                              go_quiet (fail)
                              go_wp2_with fail
                              exact ⟨⟨j + 1, false, rfl, by simp, by omega, pre_bad (fun h => by have h := h.2.2.1; rw [HO1.out] at h; omega), q + nq, by first | rfl | rw [World.drewN_drewN]⟩, by simp [intOf]; omega⟩
                          · go_wp2_with fail
                            go_quiet (fail)
                            go_wp2_with fail
                            exact ⟨⟨j + 1, false, rfl, by simp, by omega, pre_bad (fun h => by have h := h.2.1; rw [HC1.out] at h; omega), q + nq, by first | rfl | rw [World.drewN_drewN]⟩, by simp [intOf]; omega⟩
                        · go_wp2_with fail
                          go_quiet (fail)
                          go_wp2_with fail
                          exact ⟨⟨j + 1, false, rfl, by simp, by omega, pre_bad (fun h => by have h := h.1; rw [HC1.out] at h; omega), q + nq, by first | rfl | rw [World.drewN_drewN]⟩, by simp [intOf]; omega⟩
                      · obtain rfl : j = n.cs.length := by omega
                        go_wp2_with fail
                        exact ⟨⟨i + 1, true, rfl, by simp, by omega, pre_on (i := i) (B := fun k => ∀ x, P.nears[k]? = some x → nrOk P.cur x) ⟨fun _ => HT3.out.1.1, fun _ => rfl⟩ (fun y hy => by rw [HX.out] at hy; obtain rfl := Option.some.inj hy; exact (nr_hd n P.cur).2 ⟨HT3.out.1.2, HT3.out.2⟩), below_drewN HBn.out _⟩, by simp [intOf]; omega⟩
                · obtain rfl : i = P.nears.length := by omega
                  go_wp2_with fail
                  go_ret
                  exact ⟨⟨b, rfl, HB1.out.trans (pre_all P)⟩, HB.out.trans (HBW.out.mono hsW)⟩
end Go.Proofs.YtbimpoabiafdaaaDoor
