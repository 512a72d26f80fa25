/- WholeNames: the walk -/
import Derived.Test.YtjcllbkhhgfciaaDoorProg
import Derived.WalkKit
import Derived.WalkLawsBesides
import Derived.LaidEql
import Derived.WideLaws
import Derived.KernelRfl
import Derived.BigQuiet
namespace Go.Proofs.YtjcllbkhhgfciaaDoor
open Go.RowKit

theorem hide {p : Prop} (h : p) : Hid p := h
theorem comp32 : (Tryd.prog.info? 32).map (·.comparable) = some true := by kernel_rfl
theorem size51 : (Tryd.prog.info? 51).map (·.size) = some 1 := by kernel_rfl
theorem err_same (w : World) (a : Addr) : (binOp .eql 23 (.iface 32 (.pointer (some a))) (.iface 32 (.pointer (some a)))).run Tryd.prog w = .ok (.bool true) w := by
  have h1 := comp32
  have h2 := size51
  cases hi : Tryd.prog.info? 32 with
  | none => rw [hi] at h1; cases h1
  | some i =>
    cases hj : Tryd.prog.info? 51 with
    | none => rw [hj] at h2; cases h2
    | some j =>
      rw [hi] at h1
      exact run_eql_iface_ptr_same w a Tryd.underlying23 Tryd.underlying32 hi (by simpa using h1) hj
theorem err_other (w : World) {a b : Addr} {ca cb : Array Value} {ta tb : TypeId} (hne : a ≠ b) (ha : w.heap[a.block]? = some (.cells ca ta (0, 0))) (hb : w.heap[b.block]? = some (.cells cb tb (0, 0))) :
    (binOp .eql 23 (.iface 32 (.pointer (some a))) (.iface 32 (.pointer (some b)))).run Tryd.prog w = .ok (.bool false) w := by
  have h1 := comp32
  have h2 := size51
  cases hi : Tryd.prog.info? 32 with
  | none => rw [hi] at h1; cases h1
  | some i =>
    cases hj : Tryd.prog.info? 51 with
    | none => rw [hj] at h2; cases h2
    | some j =>
      rw [hi] at h1
      rw [hj] at h2
      exact run_eql_iface_ptr_other w Tryd.underlying23 Tryd.underlying32 hi (by simpa using h1) hj (by simp at h2; omega) hne ha hb

theorem error_any (w : World) (a : Addr) (s : ByteArray) (h : w.cell? a = some (.string s)) : Calls Tryd.prog 21 #[.pointer (some a)] w fun e w' => e = .returned (.string s) ∧ w = w' := by
  go_enter Tryd.func21, Tryd.ntmps21
  go_wp2
  go_ret
  exact ⟨rfl, rfl⟩
theorem method_error (w : World) (v : Value) : (method 158 32 v "Error").run Tryd.prog w = .ok (21, v) w := by kernel_rfl
theorem part_error (w : World) (g : Nat) (a : Addr) (s : ByteArray) (hg : w.cell? ⟨g, 1, none⟩ = some (.iface 32 (.pointer (some a)))) (h : w.cell? a = some (.string s)) :
    Calls Tryd.prog 4 #[.pointer (some ⟨g, 0, none⟩)] w fun e w' => e = .returned (.string s) ∧ w = w' := by
  have hm := method_error w (.pointer (some a))
  go_enter Tryd.func4, Tryd.ntmps4
  go_wp2_with fail
  refine (error_any w a s h).mono ?_
  rintro e w' ⟨rfl, rfl⟩
  go_wp2
  go_ret
  exact ⟨rfl, rfl⟩
theorem part_unwrap (w : World) (g : Nat) (v : Value) (hg : w.cell? ⟨g, 1, none⟩ = some v) :
    Calls Tryd.prog 5 #[.pointer (some ⟨g, 0, none⟩)] w fun e w' => e = .returned v ∧ w = w' := by
  go_enter Tryd.func5, Tryd.ntmps5
  go_wp2
  go_ret
  exact ⟨rfl, rfl⟩

/-- the texts -/
def txt : Nat → ByteArray
  | 0 => ⟨#[116, 111, 111, 32, 115, 104, 111, 114, 116]⟩
  | 1 => ⟨#[118, 97, 114, 105, 110, 116]⟩
  | 2 => ⟨#[108, 105, 109, 105, 116]⟩
  | 3 => ⟨#[111, 114, 100, 101, 114]⟩
  | 4 => ⟨#[116, 97, 105, 108]⟩
  | 5 => ⟨#[116, 97, 103]⟩
  | 6 => ⟨#[115, 117, 109]⟩
  | 7 => ⟨#[114, 97, 110, 103, 101]⟩
  | 8 => ⟨#[115, 105, 122, 101]⟩
  | 9 => ⟨#[99, 111, 114, 114, 117, 112, 116]⟩
  | 10 => ⟨#[115, 99, 104, 101, 109, 97]⟩
  | 11 => ⟨#[102, 105, 101, 108, 100]⟩
  | 12 => ⟨#[118, 97, 108, 117, 101]⟩
  | 13 => ⟨#[112, 97, 116, 116, 101, 114, 110]⟩
  | 14 => ⟨#[115, 116, 97, 116, 101, 115]⟩
  | 15 => ⟨#[115, 121, 110, 116, 97, 120]⟩
  | 16 => ⟨#[116, 111, 111, 32, 100, 101, 101, 112]⟩
  | 17 => ⟨#[110, 111, 100, 101]⟩
  | 18 => ⟨#[116, 111, 111, 32, 109, 97, 110, 121, 32, 116, 101, 114, 109, 115]⟩
  | 19 => ⟨#[115, 99, 111, 114, 101, 32, 111, 118, 101, 114, 102, 108, 111, 119]⟩
  | 20 => ⟨#[99, 111, 100, 101]⟩
  | 21 => ⟨#[102, 117, 101, 108]⟩
  | 22 => ⟨#[100, 111, 99, 117, 109, 101, 110, 116]⟩
  | _ => ⟨#[99, 111, 109, 109, 97, 110, 100]⟩
/-- what an error says -/
def says (g : Nat) : ByteArray := (⟨#[99, 111, 110, 99, 111, 114, 100, 58, 32]⟩ : ByteArray) ++ txt g
def listOf (E : Nat → Addr) : List Value := (List.range 24).map fun g => Value.iface 32 (.pointer (some (E g)))
def texts : List Value := (List.range 24).map fun g => Value.string (txt g)
theorem listOf_get (E : Nat → Addr) (i : Nat) (h : i < 24) : (listOf E).toArray[i]? = some (.iface 32 (.pointer (some (E i)))) := by
  simp [listOf, h]
theorem texts_get (i : Nat) (h : i < 24) : texts.toArray[i]? = some (.string (txt i)) := by
  simp [texts, h]
theorem cell_at {w : World} {g : Nat} {cs : Array Value} {E : TypeId} {fr : Nat × Nat} (h : w.heap[g]? = some (.cells cs E fr)) (i : Nat) : w.cell? ⟨g, i, none⟩ = cs[i]? := by
  simp [World.cell?, h]
theorem heap_old {w : World} {g : Nat} {o : Obj} (h : w.heap[g]? = some o) (x : Obj) : (w.alloc x).heap[g]? = some o := (Below.heap_alloc w x g (Array.getElem?_eq_some_iff.1 h).1).trans h
theorem below_drewN {B : Nat} {a w : World} (h : Below B a w) (n : Nat) : Below B a (w.drewN n) := ⟨h.os, h.tape, h.output, h.size, h.block⟩

theorem says3 : says 3 = ⟨#[99, 111, 110, 99, 111, 114, 100, 58, 32, 111, 114, 100, 101, 114]⟩ := by decide +kernel
theorem txt_size : ∀ g, g < 24 → (txt g).size < 100 := by decide +kernel

/-- what lies in memory -/
structure Errs (w : World) (E : Nat → Addr) : Prop where
  cell : ∀ g, g < 24 → w.cell? ⟨g, 0, none⟩ = some (.iface 32 (.pointer (some (E g))))
  says : ∀ g, g < 24 → w.cell? (E g) = some (.string (says g))
  blk : ∀ g, g < 24 → ∃ c t, w.heap[(E g).block]? = some (.cells c t (0, 0))
  inj : ∀ g k, g < 24 → k < 24 → g ≠ k → E g ≠ E k
theorem Errs.below {w w' : World} {E : Nat → Addr} (h : Errs w E) (hb : Below w.heap.size w w') (hg : 24 ≤ w.heap.size) : Errs w' E := by
  refine ⟨fun g hg' => (hb.cell (p := ⟨g, 0, none⟩) (show g < w.heap.size by omega)).trans (h.cell g hg'), fun g hg' => ?_, fun g hg' => ?_, h.inj⟩
  · exact (hb.cell (World.block_lt_of_cell? w _ (h.says g hg'))).trans (h.says g hg')
  · obtain ⟨c, t, hc⟩ := h.blk g hg'
    exact ⟨c, t, (hb.block _ (Array.getElem?_eq_some_iff.1 hc).1).trans hc⟩
theorem Errs.drew {w : World} {E : Nat → Addr} (h : Errs w E) (q : Nat) : Errs (w.drewN q) E := ⟨h.cell, h.says, h.blk, h.inj⟩
theorem Errs.other {w : World} {E : Nat → Addr} (h : Errs w E) (g k : Nat) (hg : g < 24) (hk : k < 24) (hne : g ≠ k) :
    (binOp .eql 23 (.iface 32 (.pointer (some (E g)))) (.iface 32 (.pointer (some (E k))))).run Tryd.prog w = .ok (.bool false) w := by
  obtain ⟨ca, ta, ha⟩ := h.blk g hg
  obtain ⟨cb, tb, hb⟩ := h.blk k hk
  exact err_other w (h.inj g k hg hk hne) ha hb

set_option maxRecDepth 100000 in
set_option maxHeartbeats 4000000 in
theorem walk (w : World) (E : Nat → Addr) (hE : Errs w E) (hg : 24 ≤ w.heap.size) :
    Calls Tryd.prog 3 #[] w fun e w' => e = .returned (.bool true) ∧ Below w.heap.size w w' := by
  have e0 : w.cell? { block := 0, off := 0 } = some (.iface 32 (.pointer (some (E 0)))) := hE.cell 0 (by omega)
  have e1 : w.cell? { block := 1, off := 0 } = some (.iface 32 (.pointer (some (E 1)))) := hE.cell 1 (by omega)
  have e2 : w.cell? { block := 2, off := 0 } = some (.iface 32 (.pointer (some (E 2)))) := hE.cell 2 (by omega)
  have e3 : w.cell? { block := 3, off := 0 } = some (.iface 32 (.pointer (some (E 3)))) := hE.cell 3 (by omega)
  have e4 : w.cell? { block := 4, off := 0 } = some (.iface 32 (.pointer (some (E 4)))) := hE.cell 4 (by omega)
  have e5 : w.cell? { block := 5, off := 0 } = some (.iface 32 (.pointer (some (E 5)))) := hE.cell 5 (by omega)
  have e6 : w.cell? { block := 6, off := 0 } = some (.iface 32 (.pointer (some (E 6)))) := hE.cell 6 (by omega)
  have e7 : w.cell? { block := 7, off := 0 } = some (.iface 32 (.pointer (some (E 7)))) := hE.cell 7 (by omega)
  have e8 : w.cell? { block := 8, off := 0 } = some (.iface 32 (.pointer (some (E 8)))) := hE.cell 8 (by omega)
  have e9 : w.cell? { block := 9, off := 0 } = some (.iface 32 (.pointer (some (E 9)))) := hE.cell 9 (by omega)
  have e10 : w.cell? { block := 10, off := 0 } = some (.iface 32 (.pointer (some (E 10)))) := hE.cell 10 (by omega)
  have e11 : w.cell? { block := 11, off := 0 } = some (.iface 32 (.pointer (some (E 11)))) := hE.cell 11 (by omega)
  have e12 : w.cell? { block := 12, off := 0 } = some (.iface 32 (.pointer (some (E 12)))) := hE.cell 12 (by omega)
  have e13 : w.cell? { block := 13, off := 0 } = some (.iface 32 (.pointer (some (E 13)))) := hE.cell 13 (by omega)
  have e14 : w.cell? { block := 14, off := 0 } = some (.iface 32 (.pointer (some (E 14)))) := hE.cell 14 (by omega)
  have e15 : w.cell? { block := 15, off := 0 } = some (.iface 32 (.pointer (some (E 15)))) := hE.cell 15 (by omega)
  have e16 : w.cell? { block := 16, off := 0 } = some (.iface 32 (.pointer (some (E 16)))) := hE.cell 16 (by omega)
  have e17 : w.cell? { block := 17, off := 0 } = some (.iface 32 (.pointer (some (E 17)))) := hE.cell 17 (by omega)
  have e18 : w.cell? { block := 18, off := 0 } = some (.iface 32 (.pointer (some (E 18)))) := hE.cell 18 (by omega)
  have e19 : w.cell? { block := 19, off := 0 } = some (.iface 32 (.pointer (some (E 19)))) := hE.cell 19 (by omega)
  have e20 : w.cell? { block := 20, off := 0 } = some (.iface 32 (.pointer (some (E 20)))) := hE.cell 20 (by omega)
  have e21 : w.cell? { block := 21, off := 0 } = some (.iface 32 (.pointer (some (E 21)))) := hE.cell 21 (by omega)
  have e22 : w.cell? { block := 22, off := 0 } = some (.iface 32 (.pointer (some (E 22)))) := hE.cell 22 (by omega)
  have e23 : w.cell? { block := 23, off := 0 } = some (.iface 32 (.pointer (some (E 23)))) := hE.cell 23 (by omega)
  have HE := hide hE
  clear hE
  go_enter Tryd.func3, Tryd.ntmps3
  go_wp2_with fail
  go_loopw [35] (fun c wr => ∃ i : Nat, i ≤ 24 ∧ c = .int .i64 i ∧ wr.heap[w.heap.size]? = some (.cells (listOf E).toArray 23 (0, 0)) ∧ wr.heap[w.heap.size + 1]? = some (.cells texts.toArray 9 (0, 0)) ∧ Errs wr E ∧ Below w.heap.size w wr) (fun c _ => 24 - (intOf c).toNat)
  case atStart =>
    have hb := ((Below.refl w.heap.size w).alloc (Nat.le_refl _) (.cells (listOf E).toArray 23)).alloc (by rw [World.size_alloc]; omega) (.cells texts.toArray 9)
    refine ⟨0, by omega, rfl, ?_, ?_, HE.out.below hb hg, hb⟩
    · exact heap_old (heap_alloc_new w (.cells (listOf E).toArray 23)) _
    · have h := heap_alloc_new (w.alloc (.cells (listOf E).toArray 23)) (.cells texts.toArray 9)
      rw [World.size_alloc] at h
      exact h
  case round =>
    obtain ⟨i, hi, rfl, hl, ht, hE, hb⟩ := hrel
    clear e0 e1 e2 e3 e4 e5 e6 e7 e8 e9 e10 e11 e12 e13 e14 e15 e16 e17 e18 e19 e20 e21 e22 e23
    have HL := hide hl
    have HX := hide ht
    have HE2 := hide hE
    have HB := hide hb
    clear hl ht hE hb
    by_cases hlt : i < 24
    · have c1 := (cell_at HL.out i).trans (listOf_get E i hlt)
      have c2 := (cell_at HX.out i).trans (texts_get i hlt)
      have c3 := HE2.out.says i hlt
      have hi1 : (i : Int) < 24 := by omega
      have hm := fun q => method_error (wr.drewN q) (.pointer (some (E i)))
      have hsz := txt_size i hlt
      have HM := hide fun q => error_any (wr.drewN q) (E i) ((⟨#[99, 111, 110, 99, 111, 114, 100, 58, 32]⟩ : ByteArray) ++ txt i) c3
      clear c3
      generalize txt i = X at HM c2 hsz
      go_wp2_with fail
      go_quiet (first | (go_at_call 21; exact Calls.quiet_of_same ((HM.out _).mono fun e w1 h => ⟨h.1, h.2.symm⟩)))
      have HL5 := hide (show (wr.drewN nq).heap[w.heap.size]? = _ from HL.out)
      have HX5 := hide (show (wr.drewN nq).heap[w.heap.size + 1]? = _ from HX.out)
      have HE5 := hide (HE2.out.drew nq)
      have HB5 := hide (below_drewN HB.out nq)
      clear HL HX HE2 HB c1 c2 hm HM hsz
      generalize wr.drewN nq = w5 at HL5 HX5 HE5 HB5 ⊢
      go_wp2_with fail
      go_loopw [5] (fun c w' => ∃ j : Nat, j ≤ i ∧ c = .int .i64 j ∧ w5 = w') (fun c _ => i - (intOf c).toNat)
      case atStart => exact ⟨0, by omega, rfl, rfl⟩
      case round =>
        obtain ⟨j, hj, rfl, rfl⟩ := hrel
        by_cases hji : j < i
        · have c1 := (cell_at HL5.out j).trans (listOf_get E j (by omega))
          have hj1 : (j : Int) < (i : Int) := by omega
          have hj2 : (j : Int) < 24 := by omega
          have hq := HE5.out.other j i (by omega) hlt (by omega)
          go_wp2_with fail
          exact ⟨⟨j + 1, by omega, by simp, trivial⟩, by simp [intOf]; omega⟩
        · obtain rfl : j = i := by omega
          have hw1 : IntKind.i64.wrap ((j : Int) + 1) = (j : Int) + 1 := by rw [IntKind.wrap_i64]; omega
          go_wp2_with fail
          exact ⟨⟨j + 1, by omega, by simp, HL5.out, HX5.out, HE5.out, HB5.out⟩, by simp [intOf]; omega⟩
    · obtain rfl : i = 24 := by omega
      have hsz := HB.out.size
      have hb6 := (Below.refl wr.heap.size wr).alloc (Nat.le_refl _) (.cells #[.int .i64 3, .iface 32 (.pointer (some (E 3)))] 29)
      have HE6 := hide (HE2.out.below hb6 (by omega))
      have HB6 := hide (HB.out.alloc hsz (.cells #[.int .i64 3, .iface 32 (.pointer (some (E 3)))] 29))
      have hrow := heap_alloc_new wr (.cells #[.int .i64 3, .iface 32 (.pointer (some (E 3)))] 29)
      have hc1 : (wr.alloc (.cells #[.int .i64 3, .iface 32 (.pointer (some (E 3)))] 29)).cell? ⟨wr.heap.size, 1, none⟩ = some (.iface 32 (.pointer (some (E 3)))) := by rw [cell_at hrow]; rfl
      have e3 : wr.cell? { block := 3, off := 0 } = some (.iface 32 (.pointer (some (E 3)))) := HE2.out.cell 3 (by omega)
      have hs3 := HE6.out.says 3 (by omega)
      rw [says3] at hs3
      have HP := hide fun q => part_error ((wr.alloc (.cells #[.int .i64 3, .iface 32 (.pointer (some (E 3)))] 29)).drewN q) wr.heap.size (E 3) _ hc1 hs3
      have HU := hide fun q => part_unwrap ((wr.alloc (.cells #[.int .i64 3, .iface 32 (.pointer (some (E 3)))] 29)).drewN q) wr.heap.size _ hc1
      have e6 := HE6.out.cell 3 (by omega)
      have hq := fun q => err_same ((wr.alloc (.cells #[.int .i64 3, .iface 32 (.pointer (some (E 3)))] 29)).drewN q) (E 3)
      clear hb6 hrow hc1 hs3 HL HX HE2
      go_wp2_with fail
      clear e3
      generalize wr.alloc (.cells #[.int .i64 3, .iface 32 (.pointer (some (E 3)))] 29) = w6 at HE6 HB6 HP HU e6 hq ⊢
      go_quiet (first
        | (go_at_call 4; exact Calls.quiet_of_same ((HP.out _).mono fun e w1 h => ⟨h.1, h.2.symm⟩))
        | (go_at_call 5; exact Calls.quiet_of_same ((HU.out _).mono fun e w1 h => ⟨h.1, h.2.symm⟩)))
      go_wp2
      go_ret
      exact ⟨rfl, below_drewN HB6.out _⟩

end Go.Proofs.YtjcllbkhhgfciaaDoor
