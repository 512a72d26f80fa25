/- Num, SameInts, Same, alike -/
import Derived.Test.YtbimpoabiafdaaaDoorCk
namespace Go.Proofs.YtbimpoabiafdaaaDoor
open Go.RowKit Vf
/-- all the errors -/
def allErrs : List Nat := [0, 1, 2, 3, 4, 5, 6, 7, 8, 9, 10, 11, 12, 13, 14, 15, 16, 17, 18, 19, 20, 21, 22, 23]
theorem ids_lt {B : Nat} (h : 25 ≤ B) : ∀ g ∈ allErrs, g < B := by
  intro g hg
  have : g ≤ 23 := by revert hg; revert g; decide
  omega
set_option maxRecDepth 100000 in
set_option maxHeartbeats 1000000 in
theorem num_code (w : World) (E : Nat → Addr) (h : Errs w E allErrs) : Calls Tryd.prog 14 #[.iface 108 (.pointer (some (E 0)))] w fun e w' => e = .returned (.int .i64 21) ∧ w = w' := by
  have c1 : w.cell? ⟨1, 0, none⟩ = some (.iface 108 (.pointer (some (E 1)))) := h.cell 1 (by decide)
  have e1 := h.eq_other 0 1 (by decide) (by decide) (by decide)
  have c2 : w.cell? ⟨2, 0, none⟩ = some (.iface 108 (.pointer (some (E 2)))) := h.cell 2 (by decide)
  have e2 := h.eq_other 0 2 (by decide) (by decide) (by decide)
  have c3 : w.cell? ⟨3, 0, none⟩ = some (.iface 108 (.pointer (some (E 3)))) := h.cell 3 (by decide)
  have e3 := h.eq_other 0 3 (by decide) (by decide) (by decide)
  have c4 : w.cell? ⟨4, 0, none⟩ = some (.iface 108 (.pointer (some (E 4)))) := h.cell 4 (by decide)
  have e4 := h.eq_other 0 4 (by decide) (by decide) (by decide)
  have c5 : w.cell? ⟨5, 0, none⟩ = some (.iface 108 (.pointer (some (E 5)))) := h.cell 5 (by decide)
  have e5 := h.eq_other 0 5 (by decide) (by decide) (by decide)
  have c6 : w.cell? ⟨6, 0, none⟩ = some (.iface 108 (.pointer (some (E 6)))) := h.cell 6 (by decide)
  have e6 := h.eq_other 0 6 (by decide) (by decide) (by decide)
  have c7 : w.cell? ⟨7, 0, none⟩ = some (.iface 108 (.pointer (some (E 7)))) := h.cell 7 (by decide)
  have e7 := h.eq_other 0 7 (by decide) (by decide) (by decide)
  have c8 : w.cell? ⟨8, 0, none⟩ = some (.iface 108 (.pointer (some (E 8)))) := h.cell 8 (by decide)
  have e8 := h.eq_other 0 8 (by decide) (by decide) (by decide)
  have c9 : w.cell? ⟨9, 0, none⟩ = some (.iface 108 (.pointer (some (E 9)))) := h.cell 9 (by decide)
  have e9 := h.eq_other 0 9 (by decide) (by decide) (by decide)
  have c10 : w.cell? ⟨10, 0, none⟩ = some (.iface 108 (.pointer (some (E 10)))) := h.cell 10 (by decide)
  have e10 := h.eq_other 0 10 (by decide) (by decide) (by decide)
  have c11 : w.cell? ⟨11, 0, none⟩ = some (.iface 108 (.pointer (some (E 11)))) := h.cell 11 (by decide)
  have e11 := h.eq_other 0 11 (by decide) (by decide) (by decide)
  have c12 : w.cell? ⟨12, 0, none⟩ = some (.iface 108 (.pointer (some (E 12)))) := h.cell 12 (by decide)
  have e12 := h.eq_other 0 12 (by decide) (by decide) (by decide)
  have c13 : w.cell? ⟨13, 0, none⟩ = some (.iface 108 (.pointer (some (E 13)))) := h.cell 13 (by decide)
  have e13 := h.eq_other 0 13 (by decide) (by decide) (by decide)
  have c14 : w.cell? ⟨14, 0, none⟩ = some (.iface 108 (.pointer (some (E 14)))) := h.cell 14 (by decide)
  have e14 := h.eq_other 0 14 (by decide) (by decide) (by decide)
  have c15 : w.cell? ⟨15, 0, none⟩ = some (.iface 108 (.pointer (some (E 15)))) := h.cell 15 (by decide)
  have e15 := h.eq_other 0 15 (by decide) (by decide) (by decide)
  have c16 : w.cell? ⟨16, 0, none⟩ = some (.iface 108 (.pointer (some (E 16)))) := h.cell 16 (by decide)
  have e16 := h.eq_other 0 16 (by decide) (by decide) (by decide)
  have c17 : w.cell? ⟨17, 0, none⟩ = some (.iface 108 (.pointer (some (E 17)))) := h.cell 17 (by decide)
  have e17 := h.eq_other 0 17 (by decide) (by decide) (by decide)
  have c18 : w.cell? ⟨18, 0, none⟩ = some (.iface 108 (.pointer (some (E 18)))) := h.cell 18 (by decide)
  have e18 := h.eq_other 0 18 (by decide) (by decide) (by decide)
  have c19 : w.cell? ⟨19, 0, none⟩ = some (.iface 108 (.pointer (some (E 19)))) := h.cell 19 (by decide)
  have e19 := h.eq_other 0 19 (by decide) (by decide) (by decide)
  have c20 : w.cell? ⟨20, 0, none⟩ = some (.iface 108 (.pointer (some (E 20)))) := h.cell 20 (by decide)
  have e20 := h.eq_other 0 20 (by decide) (by decide) (by decide)
  have c0 : w.cell? ⟨0, 0, none⟩ = some (.iface 108 (.pointer (some (E 0)))) := h.cell 0 (by decide)
  have e0 := err_same w (E 0)
  generalize E 1 = a1 at c1 e1
  generalize E 2 = a2 at c2 e2
  generalize E 3 = a3 at c3 e3
  generalize E 4 = a4 at c4 e4
  generalize E 5 = a5 at c5 e5
  generalize E 6 = a6 at c6 e6
  generalize E 7 = a7 at c7 e7
  generalize E 8 = a8 at c8 e8
  generalize E 9 = a9 at c9 e9
  generalize E 10 = a10 at c10 e10
  generalize E 11 = a11 at c11 e11
  generalize E 12 = a12 at c12 e12
  generalize E 13 = a13 at c13 e13
  generalize E 14 = a14 at c14 e14
  generalize E 15 = a15 at c15 e15
  generalize E 16 = a16 at c16 e16
  generalize E 17 = a17 at c17 e17
  generalize E 18 = a18 at c18 e18
  generalize E 19 = a19 at c19 e19
  generalize E 20 = a20 at c20 e20
  generalize E 0 = a0 at *
  clear h
  go_enter Tryd.func14, Tryd.ntmps14
  go_wp2
  go_ret
  exact ⟨rfl, rfl⟩
set_option maxRecDepth 100000 in
theorem same_ints (w : World) (a1 a2 : Option Addr) (n c1 c2 : Nat) (zs : List Int) (hn : zs.length = n) (h1 : Ints w (.slice a1 n c1) zs) (h2 : Ints w (.slice a2 n c2) zs) (hl : n ≤ 1099511627776) :
    Calls Tryd.prog 15 #[.slice a1 n c1, .slice a2 n c2] w fun e w' => e = .returned (.bool true) ∧ ∃ q, w' = w.drewN q := by
  have H1 := hide h1
  have H2 := hide h2
  have HN := hide hn
  clear h1 h2 hn
  go_enter Tryd.func15, Tryd.ntmps15
  go_wp2_with fail
  go_loopw [13] (fun c wr => ∃ i : Nat, i ≤ n ∧ c = .int .i64 i ∧ ∃ q, wr = w.drewN q) (fun c _ => n - (intOf c).toNat)
  case atStart => exact ⟨0, by omega, rfl, 0, rfl⟩
  case round =>
    obtain ⟨i, hi, rfl, q, rfl⟩ := hrel
    by_cases hlt : i < n
    · obtain ⟨x, hx⟩ : ∃ x, zs[i]? = some x := ⟨_, List.getElem?_eq_getElem (by rw [HN.out]; exact hlt)⟩
      obtain ⟨ad1, rfl, hc1⟩ := ints_get H1.out hx
      obtain ⟨ad2, rfl, hc2⟩ := ints_get H2.out hx
      have hi1 : (i : Int) < (n : Int) := by omega
      have hc1 : (w.drewN q).cell? (ad1.add i) = some (.int .i64 x) := hc1
      have hc2 : (w.drewN q).cell? (ad2.add i) = some (.int .i64 x) := hc2
      generalize hwq : w.drewN q = wq at hc1 hc2 ⊢
      have HWQ := hide hwq
      clear hwq hx
      go_wp2_with fail
      go_quiet (fail)
      go_wp2_with fail
      exact ⟨⟨i + 1, by omega, by simp, q + nq, by rw [← HWQ.out, World.drewN_drewN]⟩, by simp [intOf]; omega⟩
    · obtain rfl : i = n := by omega
      go_wp2_with fail
      go_ret
      exact ⟨rfl, q, rfl⟩
set_option maxRecDepth 100000 in
theorem same_bytes (w : World) (a1 a2 : Option Addr) (n c1 c2 : Nat) (zs : List Nat) (hn : zs.length = n) (h1 : Src w (.slice a1 n c1) zs) (h2 : Src w (.slice a2 n c2) zs) (hl : n ≤ 1099511627776) :
    Calls Tryd.prog 28 #[.slice a1 n c1, .slice a2 n c2] w fun e w' => e = .returned (.bool true) ∧ ∃ q, w' = w.drewN q := by
  have H1 := hide h1
  have H2 := hide h2
  have HN := hide hn
  clear h1 h2 hn
  go_enter Tryd.func28, Tryd.ntmps28
  go_wp2_with fail
  go_loopw [13] (fun c wr => ∃ i : Nat, i ≤ n ∧ c = .int .i64 i ∧ ∃ q, wr = w.drewN q) (fun c _ => n - (intOf c).toNat)
  case atStart => exact ⟨0, by omega, rfl, 0, rfl⟩
  case round =>
    obtain ⟨i, hi, rfl, q, rfl⟩ := hrel
    by_cases hlt : i < n
    · obtain ⟨x, hx⟩ : ∃ x, zs[i]? = some x := ⟨_, List.getElem?_eq_getElem (by rw [HN.out]; exact hlt)⟩
      obtain ⟨ad1, rfl, hc1⟩ := src_cell H1.out hx
      obtain ⟨ad2, rfl, hc2⟩ := src_cell H2.out hx
      have hi1 : (i : Int) < (n : Int) := by omega
      have hc1 : (w.drewN q).cell? (ad1.add i) = some (.int .u8 x) := hc1
      have hc2 : (w.drewN q).cell? (ad2.add i) = some (.int .u8 x) := hc2
      generalize hwq : w.drewN q = wq at hc1 hc2 ⊢
      have HWQ := hide hwq
      clear hwq hx
      go_wp2_with fail
      go_quiet (fail)
      go_wp2_with fail
      exact ⟨⟨i + 1, by omega, by simp, q + nq, by rw [← HWQ.out, World.drewN_drewN]⟩, by simp [intOf]; omega⟩
    · obtain rfl : i = n := by omega
      go_wp2_with fail
      go_ret
      exact ⟨rfl, q, rfl⟩
set_option maxRecDepth 100000 in
set_option maxHeartbeats 4000000 in
theorem alike_any (w : World) (aa ac an ad ab aa' ac' an' ad' ab' : Option Addr) (ca cc cn cd cb ca' cc' cn' cd' cb' : Nat) (al : Bool) (P : Prg)
    (hP : PrgAt w (.slice aa P.avgs.length ca) (.slice ac P.cur.length cc) (.slice an P.nears.length cn) (.slice ad P.drive.length cd) (.slice ab P.code.length cb) P) (hQ : PrgAt w (.slice aa' P.avgs.length ca') (.slice ac' P.cur.length cc') (.slice an' P.nears.length cn') (.slice ad' P.drive.length cd') (.slice ab' P.code.length cb') P) (hL : Little P 1099511627776) :
    Calls Tryd.prog 16 #[.agg #[.slice aa P.avgs.length ca, .slice ac P.cur.length cc, .slice an P.nears.length cn, .bool al, .slice ad P.drive.length cd, .slice ab P.code.length cb], .agg #[.slice aa' P.avgs.length ca', .slice ac' P.cur.length cc', .slice an' P.nears.length cn', .bool al, .slice ad' P.drive.length cd', .slice ab' P.code.length cb']] w fun e w' => e = .returned (.bool true) ∧ Below w.heap.size w w' := by
  have hq1 := (Below.refl w.heap.size w).alloc (Nat.le_refl _) (.cells #[.slice aa P.avgs.length ca, .slice ac P.cur.length cc, .slice an P.nears.length cn, .bool al, .slice ad P.drive.length cd, .slice ab P.code.length cb] 27)
  have hq2 := hq1.alloc (by simp) (.cells #[.slice aa' P.avgs.length ca', .slice ac' P.cur.length cc', .slice an' P.nears.length cn', .bool al, .slice ad' P.drive.length cd', .slice ab' P.code.length cb'] 27)
  have HP := hide (hP.keep hq2)
  have HQ := hide (hQ.keep hq2)
  have HB := hide hq2
  have hsz : (w.alloc (.cells #[.slice aa P.avgs.length ca, .slice ac P.cur.length cc, .slice an P.nears.length cn, .bool al, .slice ad P.drive.length cd, .slice ab P.code.length cb] 27)).heap.size = w.heap.size + 1 := by simp
  have HH2 := hide (heap_new (w := w.alloc (.cells #[.slice aa P.avgs.length ca, .slice ac P.cur.length cc, .slice an P.nears.length cn, .bool al, .slice ad P.drive.length cd, .slice ab P.code.length cb] 27)) rfl (.cells #[.slice aa' P.avgs.length ca', .slice ac' P.cur.length cc', .slice an' P.nears.length cn', .bool al, .slice ad' P.drive.length cd', .slice ab' P.code.length cb'] 27))
  have HH1 := hide (heap_old (heap_new (w := w) rfl (.cells #[.slice aa P.avgs.length ca, .slice ac P.cur.length cc, .slice an P.nears.length cn, .bool al, .slice ad P.drive.length cd, .slice ab P.code.length cb] 27)) (.cells #[.slice aa' P.avgs.length ca', .slice ac' P.cur.length cc', .slice an' P.nears.length cn', .bool al, .slice ad' P.drive.length cd', .slice ab' P.code.length cb'] 27))
  have l1 := hL.avgs
  have l2 := hL.cur
  have l3 := hL.nears
  have l4 := hL.drive
  have l5 := hL.code
  have HL := hide hL
  rw [hsz] at HH2
  obtain ⟨p0, p1, p2, p3, p4, p5⟩ := cells6 HH1.out
  obtain ⟨q0, q1, q2, q3, q4, q5⟩ := cells6 HH2.out
  clear hq1 hq2 hP hQ hL
  go_enter Tryd.func16, Tryd.ntmps16
  go_wp2_with fail
  generalize (w.alloc (.cells #[.slice aa P.avgs.length ca, .slice ac P.cur.length cc, .slice an P.nears.length cn, .bool al, .slice ad P.drive.length cd, .slice ab P.code.length cb] 27)).alloc (.cells #[.slice aa' P.avgs.length ca', .slice ac' P.cur.length cc', .slice an' P.nears.length cn', .bool al, .slice ad' P.drive.length cd', .slice ab' P.code.length cb'] 27) = W at *
  refine (same_ints W aa aa' P.avgs.length ca ca' P.avgs rfl HP.out.avgs HQ.out.avgs l1).mono ?_
  rintro e w1 ⟨rfl, n1, rfl⟩
  go_wp2_with fail
  refine (same_ints (W.drewN n1) ad ad' P.drive.length cd cd' P.drive rfl HP.out.drive HQ.out.drive l4).mono ?_
  rintro e w1 ⟨rfl, n2, rfl⟩
  go_wp2_with fail
  refine (same_bytes (W.drewN (n1 + n2)) ab ab' P.code.length cb cb' P.code rfl (src_drew HP.out.code _) (src_drew HQ.out.code _) l5).mono ?_
  rintro e w1 ⟨rfl, n3, rfl⟩
  go_wp2_with fail
  go_loopw [57] (fun c wr => ∃ i : Nat, i ≤ P.cur.length ∧ c = .int .i64 i ∧ ∃ q, wr = W.drewN q) (fun c _ => P.cur.length - (intOf c).toNat)
  case atStart => exact ⟨0, by omega, rfl, n1 + n2 + n3, by first | rfl | rw [World.drewN_drewN]⟩
  case round =>
    obtain ⟨i, hi, rfl, q, rfl⟩ := hrel
    by_cases hlt : i < P.cur.length
    · obtain ⟨x, hx⟩ : ∃ x, P.cur[i]? = some x := ⟨_, List.getElem?_eq_getElem hlt⟩
      obtain ⟨ad1, rfl, hc1, hd1⟩ := leafs_get HP.out.cur hx
      obtain ⟨ad2, rfl, hc2, hd2⟩ := leafs_get HQ.out.cur hx
      have hi1 : (i : Int) < (P.cur.length : Int) := by omega
      obtain ⟨f, s⟩ := x
      clear hx
      go_wp2_with fail
      go_quiet (fail)
      go_wp2_with fail
      exact ⟨⟨i + 1, by omega, by simp, q + nq, by first | rfl | rw [World.drewN_drewN]⟩, by simp [intOf]; omega⟩
    · obtain rfl : i = P.cur.length := by omega
      go_wp2_with fail
      go_loopw [75] (fun c wr => ∃ i : Nat, i ≤ P.nears.length ∧ c = .int .i64 i ∧ ∃ q, wr = W.drewN q) (fun c _ => P.nears.length - (intOf c).toNat)
      case atStart => exact ⟨0, by omega, rfl, q, rfl⟩
      case round =>
        obtain ⟨i, hi, rfl, q, rfl⟩ := hrel
        by_cases hlt : i < P.nears.length
        · obtain ⟨x, hx⟩ : ∃ x, P.nears[i]? = some x := ⟨_, List.getElem?_eq_getElem hlt⟩
          obtain ⟨ad1, rfl, va1, vb1, hc1, hd1, he1, hf1, hg1⟩ := nrs_get HP.out.nears hx
          obtain ⟨ad2, rfl, va2, vb2, hc2, hd2, he2, hf2, hg2⟩ := nrs_get HQ.out.nears hx
          obtain ⟨x1, y1, rfl⟩ := ints_form hf1
          obtain ⟨x2, y2, rfl⟩ := ints_form hf2
          obtain ⟨x3, y3, rfl⟩ := ints_form hg1
          obtain ⟨x4, y4, rfl⟩ := ints_form hg2
          have hls := HL.out.cs x (List.mem_of_getElem? hx)
          have hi1 : (i : Int) < (P.nears.length : Int) := by omega
          have HF1 := hide hf1
          have HF2 := hide hf2
          have HG1 := hide hg1
          have HG2 := hide hg2
          obtain ⟨cs, os, slop⟩ := x
          simp only at hc1 hd1 he1 hc2 hd2 he2 hls
          have S1 := hide fun n => (same_ints (W.drewN (q + n)) x1 x2 cs.length y1 y2 cs rfl HF1.out HF2.out hls.1).mono (R' := fun e w' => e = .returned (.bool true) ∧ ∃ m, w' = W.drewN (q + m)) fun e w' ⟨he, m, hm⟩ => ⟨he, n + m, by rw [hm, World.drewN_drewN, Nat.add_assoc]⟩
          have S2 := hide fun n => (same_ints (W.drewN (q + n)) x3 x4 os.length y3 y4 os rfl HG1.out HG2.out hls.2).mono (R' := fun e w' => e = .returned (.bool true) ∧ ∃ m, w' = W.drewN (q + m)) fun e w' ⟨he, m, hm⟩ => ⟨he, n + m, by rw [hm, World.drewN_drewN, Nat.add_assoc]⟩
          clear hx hf1 hf2 hg1 hg2 hls
          go_wp2_with fail
          go_quiet (first | (go_at_call 15; with_reducible exact S1.out _) | (go_at_call 15; with_reducible exact S2.out _))
          go_wp2_with fail
          exact ⟨⟨i + 1, by omega, by simp, q + nq, by first | rfl | rw [World.drewN_drewN]⟩, by simp [intOf]; omega⟩
        · obtain rfl : i = P.nears.length := by omega
          go_wp2_with fail
          go_ret
          exact ⟨rfl, below_drewN HB.out _⟩
end Go.Proofs.YtbimpoabiafdaaaDoor
