/- the orders of the round of copied -/
import Derived.Test.YtbimpoabiafdaaaDoorCo9
namespace Go.Proofs.YtbimpoabiafdaaaDoor
open Go.RowKit Vf
def ops9_5 : Array Oper := #[{ dst := some 32, op := Op.fieldAddr 27 (Operand.tmp 3) 2, type := 0, pos := "law.go:37", after := #[], guard := none }, { dst := some 33, op := Op.load 24 (Operand.tmp 32), type := 24, pos := "law.go:37", after := #[{ on := 0, ground := Ground.data }], guard := none }, { dst := some 34, op := Op.buildSlice 22 0 #[], type := 22, pos := "law.go:37", after := #[], guard := none }, { dst := some 35, op := Op.fieldAddr 65 (Operand.tmp 5) 0, type := 0, pos := "law.go:37", after := #[], guard := none }, { dst := some 36, op := Op.load 22 (Operand.tmp 35), type := 22, pos := "law.go:37", after := #[{ on := 3, ground := Ground.data }], guard := none }, { dst := some 37, op := Op.call { callee := Callee.builtin Builtin.append, args := #[Operand.tmp 34, Operand.tmp 36], argTypes := #[22, 22] }, type := 22, pos := "law.go:37", after := #[{ on := 2, ground := Ground.data }, { on := 4, ground := Ground.data }], guard := none }, { dst := some 38, op := Op.buildSlice 22 0 #[], type := 22, pos := "law.go:37", after := #[], guard := none }, { dst := some 39, op := Op.fieldAddr 65 (Operand.tmp 5) 1, type := 0, pos := "law.go:37", after := #[], guard := none }, { dst := some 40, op := Op.load 22 (Operand.tmp 39), type := 22, pos := "law.go:37", after := #[{ on := 7, ground := Ground.data }], guard := none }, { dst := some 41, op := Op.call { callee := Callee.builtin Builtin.append, args := #[Operand.tmp 38, Operand.tmp 40], argTypes := #[22, 22] }, type := 22, pos := "law.go:37", after := #[{ on := 6, ground := Ground.data }, { on := 8, ground := Ground.data }, { on := 5, ground := Ground.chain }], guard := none }, { dst := some 42, op := Op.fieldAddr 65 (Operand.tmp 5) 2, type := 0, pos := "law.go:37", after := #[], guard := none }, { dst := some 43, op := Op.load 3 (Operand.tmp 42), type := 3, pos := "law.go:37", after := #[{ on := 10, ground := Ground.data }], guard := none }, { dst := some 44, op := Op.build 65 #[(0, Operand.tmp 37), (1, Operand.tmp 41), (2, Operand.tmp 43)], type := 65, pos := "law.go:37", after := #[{ on := 5, ground := Ground.data }, { on := 9, ground := Ground.data }, { on := 11, ground := Ground.data }], guard := none }, { dst := some 45, op := Op.buildSlice 24 1 #[(0, Operand.tmp 44)], type := 24, pos := "law.go:37", after := #[{ on := 12, ground := Ground.data }], guard := none }, { dst := some 46, op := Op.call { callee := Callee.builtin Builtin.append, args := #[Operand.tmp 33, Operand.tmp 45], argTypes := #[24, 24] }, type := 24, pos := "law.go:37", after := #[{ on := 1, ground := Ground.data }, { on := 13, ground := Ground.data }, { on := 9, ground := Ground.chain }], guard := none }, { dst := some 47, op := Op.fieldAddr 27 (Operand.tmp 3) 2, type := 0, pos := "law.go:37", after := #[{ on := 0, ground := Ground.phase }, { on := 1, ground := Ground.phase }, { on := 2, ground := Ground.phase }, { on := 3, ground := Ground.phase }, { on := 4, ground := Ground.phase }, { on := 5, ground := Ground.phase }, { on := 6, ground := Ground.phase }, { on := 7, ground := Ground.phase }, { on := 8, ground := Ground.phase }, { on := 9, ground := Ground.phase }, { on := 10, ground := Ground.phase }, { on := 11, ground := Ground.phase }, { on := 12, ground := Ground.phase }, { on := 13, ground := Ground.phase }, { on := 14, ground := Ground.phase }], guard := none }, { dst := none, op := Op.store 24 (Operand.tmp 47) (Operand.tmp 46), type := 0, pos := "law.go:37", after := #[{ on := 15, ground := Ground.data }, { on := 14, ground := Ground.data }, { on := 14, ground := Ground.chain }, { on := 0, ground := Ground.phase }, { on := 1, ground := Ground.phase }, { on := 2, ground := Ground.phase }, { on := 3, ground := Ground.phase }, { on := 4, ground := Ground.phase }, { on := 5, ground := Ground.phase }, { on := 6, ground := Ground.phase }, { on := 7, ground := Ground.phase }, { on := 8, ground := Ground.phase }, { on := 9, ground := Ground.phase }, { on := 10, ground := Ground.phase }, { on := 11, ground := Ground.phase }, { on := 12, ground := Ground.phase }, { on := 13, ground := Ground.phase }, { on := 14, ground := Ground.phase }], guard := none }]
def lst5 (b1 b2 b5 b6 b9 b12 b13 : Bool) : Array Bool := #[true, b1, b2, true, true, b5, b6, true, true, b9, true, true, b12, b13, false, false, false]
def ch5 (b1 b2 b5 b6 b9 b12 b13 : Bool) : Bool := (b1 || true) && (!b5 || b2) && (!b9 || (b6 && b5)) && (!b12 || b9) && (!b13 || b12)
def ok5 (b1 b2 b5 b6 b9 b12 b13 : Bool) (i : Nat) : Bool := (i == 1 && !b1) || (i == 2 && !b2) || (i == 5 && b2 && !b5) || (i == 6 && !b6) || (i == 9 && b6 && b5 && !b9) || (i == 12 && b9 && !b12) || (i == 13 && b12 && !b13) || (i == 14 && b1 && b13)
set_option maxRecDepth 100000 in
theorem ready5 : ∀ b1 b2 b5 b6 b9 b12 b13 : Bool, ch5 b1 b2 b5 b6 b9 b12 b13 = true → (Region.ready .any ops9_5 (lst5 b1 b2 b5 b6 b9 b12 b13) ≠ [] ∧ (Region.ready .any ops9_5 (lst5 b1 b2 b5 b6 b9 b12 b13)).all (ok5 b1 b2 b5 b6 b9 b12 b13) = true) := by decide +kernel
def cnt5 (b1 b2 b5 b6 b9 b12 b13 : Bool) : Nat := (!b1).toNat + (!b2).toNat + (!b5).toNat + (!b6).toNat + (!b9).toNat + (!b12).toNat + (!b13).toNat
theorem up5_b1 : ∀ b1 b2 b5 b6 b9 b12 b13 : Bool, ch5 b1 b2 b5 b6 b9 b12 b13 = true → b1 = false → ch5 true b2 b5 b6 b9 b12 b13 = true ∧ b1 = false ∧ cnt5 b1 b2 b5 b6 b9 b12 b13 = cnt5 true b2 b5 b6 b9 b12 b13 + 1 := by decide +kernel
theorem up5_b2 : ∀ b1 b2 b5 b6 b9 b12 b13 : Bool, ch5 b1 b2 b5 b6 b9 b12 b13 = true → b2 = false → ch5 b1 true b5 b6 b9 b12 b13 = true ∧ b5 = false ∧ cnt5 b1 b2 b5 b6 b9 b12 b13 = cnt5 b1 true b5 b6 b9 b12 b13 + 1 := by decide +kernel
theorem up5_b5 : ∀ b1 b2 b5 b6 b9 b12 b13 : Bool, ch5 b1 b2 b5 b6 b9 b12 b13 = true → b5 = false → b2 = true → ch5 b1 b2 true b6 b9 b12 b13 = true ∧ b12 = false ∧ cnt5 b1 b2 b5 b6 b9 b12 b13 = cnt5 b1 b2 true b6 b9 b12 b13 + 1 := by decide +kernel
theorem up5_b6 : ∀ b1 b2 b5 b6 b9 b12 b13 : Bool, ch5 b1 b2 b5 b6 b9 b12 b13 = true → b6 = false → ch5 b1 b2 b5 true b9 b12 b13 = true ∧ b9 = false ∧ cnt5 b1 b2 b5 b6 b9 b12 b13 = cnt5 b1 b2 b5 true b9 b12 b13 + 1 := by decide +kernel
theorem up5_b9 : ∀ b1 b2 b5 b6 b9 b12 b13 : Bool, ch5 b1 b2 b5 b6 b9 b12 b13 = true → b9 = false → b6 = true → b5 = true → ch5 b1 b2 b5 b6 true b12 b13 = true ∧ b12 = false ∧ cnt5 b1 b2 b5 b6 b9 b12 b13 = cnt5 b1 b2 b5 b6 true b12 b13 + 1 := by decide +kernel
theorem up5_b12 : ∀ b1 b2 b5 b6 b9 b12 b13 : Bool, ch5 b1 b2 b5 b6 b9 b12 b13 = true → b12 = false → b9 = true → ch5 b1 b2 b5 b6 b9 true b13 = true ∧ b13 = false ∧ cnt5 b1 b2 b5 b6 b9 b12 b13 = cnt5 b1 b2 b5 b6 b9 true b13 + 1 := by decide +kernel
theorem up5_b13 : ∀ b1 b2 b5 b6 b9 b12 b13 : Bool, ch5 b1 b2 b5 b6 b9 b12 b13 = true → b13 = false → b12 = true → ch5 b1 b2 b5 b6 b9 b12 true = true ∧ b9 = true ∧ cnt5 b1 b2 b5 b6 b9 b12 b13 = cnt5 b1 b2 b5 b6 b9 b12 true + 1 := by decide +kernel
theorem all_done50 : ∀ b1 b2 b5 b6 b9 b12 b13 : Bool, 0 = cnt5 b1 b2 b5 b6 b9 b12 b13 → (b1 && b2 && b5 && b6 && b9 && b12 && b13) = true := by decide +kernel
theorem all_done5 {b1 b2 b5 b6 b9 b12 b13 : Bool} (h : 0 = cnt5 b1 b2 b5 b6 b9 b12 b13) : b1 = true ∧ b2 = true ∧ b5 = true ∧ b6 = true ∧ b9 = true ∧ b12 = true ∧ b13 = true := by
  have h := all_done50 b1 b2 b5 b6 b9 b12 b13 h
  simp only [Bool.and_eq_true] at h
  simp only [h, and_self]
theorem far5 : ∀ b1 b2 b5 b6 b9 b12 b13 : Bool, ch5 b1 b2 b5 b6 b9 b12 b13 = true → b9 = true → (b5 && b9) = true := by decide +kernel
theorem no_more5 : ∀ b1 b2 b5 b6 b9 b12 b13 : Bool, ch5 b1 b2 b5 b6 b9 b12 b13 = true → b1 = true → b13 = true → cnt5 b1 b2 b5 b6 b9 b12 b13 = 0 := by decide +kernel
def Cp5 (B : Nat) (n : Nr) (vn : Value) (b1 b2 b5 b6 b9 b12 b13 : Bool) (s33 s34 s37 s38 s41 s44 s45 : Value) (w : World) : Prop :=
  ∃ o0 o1, Fa w B (R4 o0 o1 none none) ∧ (b1 = true → s33 = vn) ∧
    (b2 = true → b5 = false → o0 = some ⟨3, 1, s34, 0, []⟩) ∧ (b5 = true → o0 = some ⟨3, 1, s37, n.cs.length, intCells n.cs⟩) ∧
    (b6 = true → b9 = false → o1 = some ⟨3, 1, s38, 0, []⟩) ∧ (b9 = true → o1 = some ⟨3, 1, s41, n.os.length, intCells n.os⟩) ∧
    (b12 = true → s44 = .agg #[s37, s41, .int .i64 n.slop]) ∧ (b13 = true → ∃ Y, s45 = .slice (some ⟨Y, 0, none⟩) 1 1 ∧ B ≤ Y ∧ w.heap[Y]? = some (.cells #[s37, s41, .int .i64 n.slop] 65 (0, 0)))
theorem cp5_load {B : Nat} {n : Nr} {vn : Value} {b1 b2 b5 b6 b9 b12 b13 : Bool} {s33 s34 s37 s38 s41 s44 s45 : Value} {w : World} (h : Cp5 B n vn b1 b2 b5 b6 b9 b12 b13 s33 s34 s37 s38 s41 s44 s45 w) : Cp5 B n vn true b2 b5 b6 b9 b12 b13 vn s34 s37 s38 s41 s44 s45 w := by
  obtain ⟨o0, o1, hF, g1, n0, f0, n1, f1, h12, h13⟩ := h
  exact ⟨o0, o1, hF, fun _ => rfl, n0, f0, n1, f1, h12, h13⟩
theorem cp5_new0 {B : Nat} {n : Nr} {vn : Value} {b1 b2 b5 b6 b9 b12 b13 : Bool} {s33 s34 s37 s38 s41 s44 s45 : Value} {w : World} (h : Cp5 B n vn b1 b2 b5 b6 b9 b12 b13 s33 s34 s37 s38 s41 s44 s45 w) (hc : b5 = false) (hB : B ≤ w.heap.size) : Cp5 B n vn b1 true b5 b6 b9 b12 b13 s33 (.slice (some ⟨w.heap.size, 0, none⟩) 0 0) s37 s38 s41 s44 s45 (w.alloc (.cells #[] 3)) := by
  obtain ⟨o0, o1, hF, g1, n0, f0, n1, f1, h12, h13⟩ := h
  exact ⟨some _, o1, (by rw [← upd0]; exact fa_new 3 1 hF hB), g1, (fun _ _ => rfl), (fun hx => by rw [hc] at hx; cases hx), n1, f1, h12, (fun hx => by obtain ⟨Y, e1, e2, e3⟩ := h13 hx; exact ⟨Y, e1, e2, heap_old e3 _⟩)⟩
theorem cp5_app0 {B : Nat} {n : Nr} {vn : Value} {b1 b2 b5 b6 b9 b12 b13 : Bool} {s33 s34 s37 s38 s41 s44 s45 : Value} {w : World} (h : Cp5 B n vn b1 b2 b5 b6 b9 b12 b13 s33 s34 s37 s38 s41 s44 s45 w) (hb : b2 = true) (hc : b5 = false) (h12f : b12 = false) (h13f : b13 = false) (hB : B ≤ w.heap.size) (ty : TypeId) (xv : Value) (hs : SrcC w xv (n.cs.length) 1 (intCells n.cs)) (hl : n.cs.length ≤ 1099511627776) :
    ∃ v' w', (Builtin.append_ #[22, 22] ty #[s34, xv]).run Tryd.prog w = .ok v' w' ∧ Cp5 B n vn b1 b2 true b6 b9 b12 b13 s33 s34 v' s38 s41 s44 s45 w' ∧ ∃ row, w.grownBy w' row ∧ ∀ q, row = some q → B ≤ q := by
  obtain ⟨o0, o1, hF, g1, n0, f0, n1, f1, h12, h13⟩ := h
  obtain ⟨i0, hi, hz0, hz1, hz2⟩ := info_parts info3
  have e0 := n0 hb hc
  have hown := hF.1 0 _ (show R4 o0 o1 none none 0 = _ from e0)
  obtain ⟨v', w', hr, ho, hg, hat⟩ := run_row w B 22 ty 3 i0 _ 1 _ Tryd.underlying22 hi hz0 hz1 hz2 rfl (by decide) s34 xv 0 _ [] _ hown hs (intCells_one _) (by simp only [maxLen]; omega) (by omega) hB
  rw [Nat.zero_add, List.nil_append] at ho
  refine ⟨v', w', hr, ⟨some _, o1, ?_, g1, (fun _ hx => by cases hx), (fun _ => rfl), n1, f1, (fun hx => by rw [h12f] at hx; cases hx), (fun hx => by rw [h13f] at hx; cases hx)⟩, _, hg, fun q hq => (World.ownsRow.lt hown q hq).1⟩
  rw [← upd0]
  exact fa_grow hF e0 (r' := ⟨3, 1, v', n.cs.length, intCells n.cs⟩) ho hg hat
theorem cp5_new1 {B : Nat} {n : Nr} {vn : Value} {b1 b2 b5 b6 b9 b12 b13 : Bool} {s33 s34 s37 s38 s41 s44 s45 : Value} {w : World} (h : Cp5 B n vn b1 b2 b5 b6 b9 b12 b13 s33 s34 s37 s38 s41 s44 s45 w) (hc : b9 = false) (hB : B ≤ w.heap.size) : Cp5 B n vn b1 b2 b5 true b9 b12 b13 s33 s34 s37 (.slice (some ⟨w.heap.size, 0, none⟩) 0 0) s41 s44 s45 (w.alloc (.cells #[] 3)) := by
  obtain ⟨o0, o1, hF, g1, n0, f0, n1, f1, h12, h13⟩ := h
  exact ⟨o0, some _, (by rw [← upd1]; exact fa_new 3 1 hF hB), g1, n0, f0, (fun _ _ => rfl), (fun hx => by rw [hc] at hx; cases hx), h12, (fun hx => by obtain ⟨Y, e1, e2, e3⟩ := h13 hx; exact ⟨Y, e1, e2, heap_old e3 _⟩)⟩
theorem cp5_app1 {B : Nat} {n : Nr} {vn : Value} {b1 b2 b5 b6 b9 b12 b13 : Bool} {s33 s34 s37 s38 s41 s44 s45 : Value} {w : World} (h : Cp5 B n vn b1 b2 b5 b6 b9 b12 b13 s33 s34 s37 s38 s41 s44 s45 w) (hb : b6 = true) (hc : b9 = false) (h12f : b12 = false) (h13f : b13 = false) (hB : B ≤ w.heap.size) (ty : TypeId) (xv : Value) (hs : SrcC w xv (n.os.length) 1 (intCells n.os)) (hl : n.os.length ≤ 1099511627776) :
    ∃ v' w', (Builtin.append_ #[22, 22] ty #[s38, xv]).run Tryd.prog w = .ok v' w' ∧ Cp5 B n vn b1 b2 b5 b6 true b12 b13 s33 s34 s37 s38 v' s44 s45 w' ∧ ∃ row, w.grownBy w' row ∧ ∀ q, row = some q → B ≤ q := by
  obtain ⟨o0, o1, hF, g1, n0, f0, n1, f1, h12, h13⟩ := h
  obtain ⟨i0, hi, hz0, hz1, hz2⟩ := info_parts info3
  have e0 := n1 hb hc
  have hown := hF.1 1 _ (show R4 o0 o1 none none 1 = _ from e0)
  obtain ⟨v', w', hr, ho, hg, hat⟩ := run_row w B 22 ty 3 i0 _ 1 _ Tryd.underlying22 hi hz0 hz1 hz2 rfl (by decide) s38 xv 0 _ [] _ hown hs (intCells_one _) (by simp only [maxLen]; omega) (by omega) hB
  rw [Nat.zero_add, List.nil_append] at ho
  refine ⟨v', w', hr, ⟨o0, some _, ?_, g1, n0, f0, (fun _ hx => by cases hx), (fun _ => rfl), (fun hx => by rw [h12f] at hx; cases hx), (fun hx => by rw [h13f] at hx; cases hx)⟩, _, hg, fun q hq => (World.ownsRow.lt hown q hq).1⟩
  rw [← upd1]
  exact fa_grow hF e0 (r' := ⟨3, 1, v', n.os.length, intCells n.os⟩) ho hg hat
theorem cp5_shape {B : Nat} {n : Nr} {vn : Value} {b1 b2 b5 b6 b9 b12 b13 : Bool} {s33 s34 s37 s38 s41 s44 s45 : Value} {w : World} (h : Cp5 B n vn b1 b2 b5 b6 b9 b12 b13 s33 s34 s37 s38 s41 s44 s45 w) (k5 : b5 = true) (k9 : b9 = true) : (∃ a c, s37 = .slice a n.cs.length c) ∧ (∃ a c, s41 = .slice a n.os.length c) := by
  obtain ⟨o0, o1, hF, g1, n0, f0, n1, f1, h12, h13⟩ := h
  exact ⟨row_shape (hF.1 0 _ (show R4 o0 o1 none none 0 = _ from f0 k5)), row_shape (hF.1 1 _ (show R4 o0 o1 none none 1 = _ from f1 k9))⟩
theorem cp5_build {B : Nat} {n : Nr} {vn : Value} {b1 b2 b5 b6 b9 b12 b13 : Bool} {s33 s34 s37 s38 s41 s44 s45 : Value} {w : World} (h : Cp5 B n vn b1 b2 b5 b6 b9 b12 b13 s33 s34 s37 s38 s41 s44 s45 w) (h13f : b13 = false) : Cp5 B n vn b1 b2 b5 b6 b9 true b13 s33 s34 s37 s38 s41 (.agg #[s37, s41, .int .i64 n.slop]) s45 w := by
  obtain ⟨o0, o1, hF, g1, n0, f0, n1, f1, h12, h13⟩ := h
  exact ⟨o0, o1, hF, g1, n0, f0, n1, f1, fun _ => rfl, fun hx => by rw [h13f] at hx; cases hx⟩
theorem cp5_list {B : Nat} {n : Nr} {vn : Value} {b1 b2 b5 b6 b9 b12 b13 : Bool} {s33 s34 s37 s38 s41 s44 s45 : Value} {w : World} (h : Cp5 B n vn b1 b2 b5 b6 b9 b12 b13 s33 s34 s37 s38 s41 s44 s45 w) (hB : B ≤ w.heap.size) : Cp5 B n vn b1 b2 b5 b6 b9 b12 true s33 s34 s37 s38 s41 s44 (.slice (some ⟨w.heap.size, 0, none⟩) 1 1) (w.alloc (.cells #[s37, s41, .int .i64 n.slop] 65)) := by
  obtain ⟨o0, o1, hF, g1, n0, f0, n1, f1, h12, h13⟩ := h
  exact ⟨o0, o1, fa_below hF ((Below.refl _ _).alloc (Nat.le_refl _) _), g1, n0, f0, n1, f1, h12, fun _ => ⟨w.heap.size, rfl, hB, heap_new rfl _⟩⟩
def act5 (A X : Nat) (va vb : Value) (n : Nr) (t0 t1 t2 t4 t6 t7 t8 t9 t10 t11 t12 t13 t14 t15 t16 t17 t18 t19 t20 t21 t22 t23 t24 t25 t26 t27 t28 t29 t30 t31 t46 t47 t48 t49 : Value) (s33 s34 s37 s38 s41 s44 s45 : Value) : Act := { tmps := #[t0, t1, t2, .pointer (some ⟨A, 0, none⟩), t4, .pointer (some ⟨X, 0, none⟩), t6, t7, t8, t9, t10, t11, t12, t13, t14, t15, t16, t17, t18, t19, t20, t21, t22, t23, t24, t25, t26, t27, t28, t29, t30, t31, .pointer (some ⟨A, 2, none⟩), s33, s34, .pointer (some ⟨X, 0, none⟩), va, s37, s38, .pointer (some ⟨X, 1, none⟩), vb, s41, .pointer (some ⟨X, 2, none⟩), .int .i64 n.slop, s44, s45, t46, t47, t48, t49], defers := [] }
set_option maxRecDepth 100000 in
set_option maxHeartbeats 8000000 in
theorem cp_round (W : World) (A X : Nat) (va vb vn : Value) (n : Nr) (t0 t1 t2 t4 t6 t7 t8 t9 t10 t11 t12 t13 t14 t15 t16 t17 t18 t19 t20 t21 t22 t23 t24 t25 t26 t27 t28 t29 t30 t31 t46 t47 t48 t49 : Value) (u33 u34 u37 u38 u41 u44 u45 : Value)
    (hA : W.cell? ⟨A, 2, none⟩ = some vn) (hX : W.cell? ⟨X, 0, none⟩ = some va ∧ W.cell? ⟨X, 1, none⟩ = some vb ∧ W.cell? ⟨X, 2, none⟩ = some (.int .i64 n.slop)) (ha : Ints W va n.cs) (hb : Ints W vb n.os) (l1 : n.cs.length ≤ 1099511627776) (l2 : n.os.length ≤ 1099511627776) (hvn : ∃ a m c, vn = .slice a m c) (Q : Exit → Act → World → Prop)
    (hend : ∀ (Y : Nat) (s34 s37 s38 s41 : Value) (w1 : World), Below W.heap.size W w1 → W.heap.size ≤ Y → Cp5 W.heap.size n vn true true true true true true true vn s34 s37 s38 s41 (.agg #[s37, s41, .int .i64 n.slop]) (.slice (some ⟨Y, 0, none⟩) 1 1) w1 → w1.heap[Y]? = some (.cells #[s37, s41, .int .i64 n.slop] 65 (0, 0)) → (fun w1 => w1.cell? ⟨X, 0, none⟩ = some va ∧ w1.cell? ⟨X, 1, none⟩ = some vb ∧ w1.cell? ⟨X, 2, none⟩ = some (.int .i64 n.slop)) w1 → wpAnyH Tryd.prog .any ops9_5 Q (fun w1 => w1.cell? ⟨X, 0, none⟩ = some va ∧ w1.cell? ⟨X, 1, none⟩ = some vb ∧ w1.cell? ⟨X, 2, none⟩ = some (.int .i64 n.slop)) 3 (lst5 true true true true true true true) (act5 A X va vb n t0 t1 t2 t4 t6 t7 t8 t9 t10 t11 t12 t13 t14 t15 t16 t17 t18 t19 t20 t21 t22 t23 t24 t25 t26 t27 t28 t29 t30 t31 t46 t47 t48 t49 vn s34 s37 s38 s41 (.agg #[s37, s41, .int .i64 n.slop]) (.slice (some ⟨Y, 0, none⟩) 1 1)) w1) :
    wpAnyH Tryd.prog .any ops9_5 Q (fun w1 => w1.cell? ⟨X, 0, none⟩ = some va ∧ w1.cell? ⟨X, 1, none⟩ = some vb ∧ w1.cell? ⟨X, 2, none⟩ = some (.int .i64 n.slop)) 10 (lst5 false false false false false false false) (act5 A X va vb n t0 t1 t2 t4 t6 t7 t8 t9 t10 t11 t12 t13 t14 t15 t16 t17 t18 t19 t20 t21 t22 t23 t24 t25 t26 t27 t28 t29 t30 t31 t46 t47 t48 t49 u33 u34 u37 u38 u41 u44 u45) W.drew := by
  have HEND := hide hend
  have HI1 := hide ha
  have HI2 := hide hb
  obtain ⟨x0, x1, x2⟩ := hX
  obtain ⟨an, mn, cn, rfl⟩ := hvn
  have X0 := hide fun w1 (h : Below W.heap.size W w1) => lt_keep x0 h
  have X1 := hide fun w1 (h : Below W.heap.size W w1) => lt_keep x1 h
  have X2 := hide fun w1 (h : Below W.heap.size W w1) => lt_keep x2 h
  have XA := hide fun w1 (h : Below W.heap.size W w1) => lt_keep hA h
  clear hend ha hb x0 x1 x2 hA
  refine anyH_inv 3 (fun k listed a wv => ∃ (b1 b2 b5 b6 b9 b12 b13 : Bool) (s33 s34 s37 s38 s41 s44 s45 : Value), (ch5 b1 b2 b5 b6 b9 b12 b13 = true) ∧ k = cnt5 b1 b2 b5 b6 b9 b12 b13 ∧ listed = lst5 b1 b2 b5 b6 b9 b12 b13 ∧ a = act5 A X va vb n t0 t1 t2 t4 t6 t7 t8 t9 t10 t11 t12 t13 t14 t15 t16 t17 t18 t19 t20 t21 t22 t23 t24 t25 t26 t27 t28 t29 t30 t31 t46 t47 t48 t49 s33 s34 s37 s38 s41 s44 s45 ∧ Below W.heap.size W wv ∧ Cp5 W.heap.size n (.slice an mn cn) b1 b2 b5 b6 b9 b12 b13 s33 s34 s37 s38 s41 s44 s45 wv) ?_ ?_ 7 _ _ _ ?_
  · rintro listed a wv ⟨b1, b2, b5, b6, b9, b12, b13, s33, s34, s37, s38, s41, s44, s45, hch, hk, rfl, rfl, hb, hf⟩
    obtain ⟨rfl, rfl, rfl, rfl, rfl, rfl, rfl⟩ := all_done5 hk
    have hf2 := hf
    obtain ⟨o0, o1, hF, g1, n0, f0, n1, f1, h12, h13⟩ := hf2
    obtain ⟨Y, rfl, hY, hz⟩ := h13 rfl
    obtain rfl := h12 rfl
    obtain rfl := g1 rfl
    exact HEND.out Y s34 s37 s38 s41 wv hb hY hf hz ⟨X0.out _ hb, X1.out _ hb, X2.out _ hb⟩
  · rintro k listed a wv ⟨b1, b2, b5, b6, b9, b12, b13, s33, s34, s37, s38, s41, s44, s45, hch, hk, rfl, rfl, hb, hf⟩
    have hr := ready5 b1 b2 b5 b6 b9 b12 b13 hch
    refine ⟨hr.1, fun i hi => ?_⟩
    have hok := List.all_eq_true.1 hr.2 i hi
    have hsv := hb.size
    clear hr hi
    simp only [ok5, Bool.or_eq_true, Bool.and_eq_true, beq_iff_eq, Bool.not_eq_true'] at hok
    rcases hok with ((((((c1 | c2) | c5) | c6) | c9) | c12) | c13) | c14
    · obtain ⟨rfl, rfl⟩ := c1
      obtain ⟨hu1, _, hu3⟩ := up5_b1 false b2 b5 b6 b9 b12 b13 hch rfl
      refine wpOp_step (o := { dst := some 33, op := Op.load 24 (Operand.tmp 32), type := 24, pos := "law.go:37", after := #[{ on := 0, ground := Ground.data }], guard := none }) rfl (fun K hK => ?_)
      have HK := hide hK
      clear hK
      have HF := hide (cp5_load hf)
      have hca := XA.out _ hb
      clear hf
      unfold act5
      go_simp
      refine HK.out _ _ ⟨⟨X0.out _ hb, X1.out _ hb, X2.out _ hb⟩, true, b2, b5, b6, b9, b12, b13, _, s34, s37, s38, s41, s44, s45, ?_, ?_, rfl, rfl, hb, HF.out⟩
      · exact hu1
      · omega
    · obtain ⟨rfl, rfl⟩ := c2
      obtain ⟨hu1, hc, hu3⟩ := up5_b2 b1 false b5 b6 b9 b12 b13 hch rfl
      refine wpOp_step (o := { dst := some 34, op := Op.buildSlice 22 0 #[], type := 22, pos := "law.go:37", after := #[], guard := none }) rfl (fun K hK => ?_)
      have HK := hide hK
      clear hK
      have hq := hb.trans (((Below.refl wv.heap.size wv).alloc (Nat.le_refl _) (.cells #[] 3)).mono hsv)
      have HF := hide (cp5_new0 hf hc hsv)
      clear hf
      unfold act5
      go_simp
      refine HK.out _ _ ⟨⟨X0.out _ hq, X1.out _ hq, X2.out _ hq⟩, b1, true, b5, b6, b9, b12, b13, s33, .slice (some ⟨wv.heap.size, 0, none⟩) 0 0, s37, s38, s41, s44, s45, ?_, ?_, rfl, rfl, hq, HF.out⟩
      · exact hu1
      · omega
    · obtain ⟨⟨rfl, hb0⟩, rfl⟩ := c5
      obtain ⟨hu1, h12f, hu3⟩ := up5_b5 b1 b2 false b6 b9 b12 b13 hch rfl hb0
      have h13f : b13 = false := by cases b13; rfl; exact absurd hu1 (by rw [h12f]; cases b1 <;> cases b2 <;> cases b6 <;> cases b9 <;> decide)
      refine wpOp_step (o := { dst := some 37, op := Op.call { callee := Callee.builtin Builtin.append, args := #[Operand.tmp 34, Operand.tmp 36], argTypes := #[22, 22] }, type := 22, pos := "law.go:37", after := #[{ on := 2, ground := Ground.data }, { on := 4, ground := Ground.data }], guard := none }) rfl (fun K hK => ?_)
      have HK := hide hK
      clear hK
      obtain ⟨v', w', hr', hf', row, hg, hrow⟩ := cp5_app0 hf hb0 rfl h12f h13f hsv 22 _ (srcc_keep (srcc_ints HI1.out) hb) l1
      have hq := hb.grown hg hsv hrow
      unfold act5
      refine step_run 22 _ w' _ _ v' rfl (.tmp 34) (.tmp 36) rfl rfl rfl hr' ?_
      refine HK.out _ _ ⟨⟨X0.out _ hq, X1.out _ hq, X2.out _ hq⟩, b1, b2, true, b6, b9, b12, b13, s33, s34, v', s38, s41, s44, s45, ?_, ?_, rfl, rfl, hq, hf'⟩
      · exact hu1
      · omega
    · obtain ⟨rfl, rfl⟩ := c6
      obtain ⟨hu1, hc, hu3⟩ := up5_b6 b1 b2 b5 false b9 b12 b13 hch rfl
      refine wpOp_step (o := { dst := some 38, op := Op.buildSlice 22 0 #[], type := 22, pos := "law.go:37", after := #[], guard := none }) rfl (fun K hK => ?_)
      have HK := hide hK
      clear hK
      have hq := hb.trans (((Below.refl wv.heap.size wv).alloc (Nat.le_refl _) (.cells #[] 3)).mono hsv)
      have HF := hide (cp5_new1 hf hc hsv)
      clear hf
      unfold act5
      go_simp
      refine HK.out _ _ ⟨⟨X0.out _ hq, X1.out _ hq, X2.out _ hq⟩, b1, b2, b5, true, b9, b12, b13, s33, s34, s37, .slice (some ⟨wv.heap.size, 0, none⟩) 0 0, s41, s44, s45, ?_, ?_, rfl, rfl, hq, HF.out⟩
      · exact hu1
      · omega
    · obtain ⟨⟨⟨rfl, hb0⟩, hb1⟩, rfl⟩ := c9
      obtain ⟨hu1, h12f, hu3⟩ := up5_b9 b1 b2 b5 b6 false b12 b13 hch rfl hb0 hb1
      have h13f : b13 = false := by cases b13; rfl; exact absurd hu1 (by rw [h12f]; cases b1 <;> cases b2 <;> cases b6 <;> cases b5 <;> decide)
      refine wpOp_step (o := { dst := some 41, op := Op.call { callee := Callee.builtin Builtin.append, args := #[Operand.tmp 38, Operand.tmp 40], argTypes := #[22, 22] }, type := 22, pos := "law.go:37", after := #[{ on := 6, ground := Ground.data }, { on := 8, ground := Ground.data }, { on := 5, ground := Ground.chain }], guard := none }) rfl (fun K hK => ?_)
      have HK := hide hK
      clear hK
      obtain ⟨v', w', hr', hf', row, hg, hrow⟩ := cp5_app1 hf hb0 rfl h12f h13f hsv 22 _ (srcc_keep (srcc_ints HI2.out) hb) l2
      have hq := hb.grown hg hsv hrow
      unfold act5
      refine step_run 22 _ w' _ _ v' rfl (.tmp 38) (.tmp 40) rfl rfl rfl hr' ?_
      refine HK.out _ _ ⟨⟨X0.out _ hq, X1.out _ hq, X2.out _ hq⟩, b1, b2, b5, b6, true, b12, b13, s33, s34, s37, s38, v', s44, s45, ?_, ?_, rfl, rfl, hq, hf'⟩
      · exact hu1
      · omega
    · obtain ⟨⟨rfl, hb0⟩, rfl⟩ := c12
      obtain ⟨hu1, h13f, hu3⟩ := up5_b12 b1 b2 b5 b6 b9 false b13 hch rfl hb0
      have hfar := far5 b1 b2 b5 b6 b9 false b13 hch hb0
      simp only [Bool.and_eq_true] at hfar
      obtain ⟨⟨a37, c37, rfl⟩, ⟨a41, c41, rfl⟩⟩ := cp5_shape hf hfar.1 hfar.2
      clear hfar
      refine wpOp_step (o := { dst := some 44, op := Op.build 65 #[(0, Operand.tmp 37), (1, Operand.tmp 41), (2, Operand.tmp 43)], type := 65, pos := "law.go:37", after := #[{ on := 5, ground := Ground.data }, { on := 9, ground := Ground.data }, { on := 11, ground := Ground.data }], guard := none }) rfl (fun K hK => ?_)
      have HK := hide hK
      clear hK
      have HF := hide (cp5_build hf h13f)
      clear hf
      unfold act5
      go_simp
      refine HK.out _ _ ⟨⟨X0.out _ hb, X1.out _ hb, X2.out _ hb⟩, b1, b2, b5, b6, b9, true, b13, _, _, _, _, _, _, _, ?_, ?_, rfl, rfl, hb, HF.out⟩
      · exact hu1
      · omega
    · obtain ⟨⟨rfl, hb0⟩, rfl⟩ := c13
      obtain ⟨hu1, hb9, hu3⟩ := up5_b13 b1 b2 b5 b6 b9 b12 false hch rfl hb0
      have hfar := far5 b1 b2 b5 b6 b9 b12 false hch hb9
      simp only [Bool.and_eq_true] at hfar
      obtain ⟨⟨a37, c37, rfl⟩, ⟨a41, c41, rfl⟩⟩ := cp5_shape hf hfar.1 hfar.2
      obtain ⟨o0, o1, hF, g1, n0, f0, n1, f1, h12, h13⟩ := id hf
      obtain rfl := h12 hb0
      clear hfar hF g1 n0 f0 n1 f1 h12 h13
      refine wpOp_step (o := { dst := some 45, op := Op.buildSlice 24 1 #[(0, Operand.tmp 44)], type := 24, pos := "law.go:37", after := #[{ on := 12, ground := Ground.data }], guard := none }) rfl (fun K hK => ?_)
      have HK := hide hK
      clear hK
      have hq := hb.trans (((Below.refl wv.heap.size wv).alloc (Nat.le_refl _) (.cells #[.slice a37 n.cs.length c37, .slice a41 n.os.length c41, .int .i64 n.slop] 65)).mono hsv)
      have HF := hide (cp5_list hf hsv)
      clear hf
      unfold act5
      go_simp
      refine HK.out _ _ ⟨⟨X0.out _ hq, X1.out _ hq, X2.out _ hq⟩, b1, b2, b5, b6, b9, b12, true, _, _, _, _, _, _, _, ?_, ?_, rfl, rfl, hq, HF.out⟩
      · exact hu1
      · omega
    · obtain ⟨⟨rfl, h1⟩, h13⟩ := c14
      have := no_more5 b1 b2 b5 b6 b9 b12 b13 hch h1 h13
      omega
  · exact ⟨false, false, false, false, false, false, false, u33, u34, u37, u38, u41, u44, u45, rfl, rfl, rfl, rfl, (Below.refl _ _).drew, none, none, by rw [r4_none]; exact fa_none _ _, by simp, by simp, by simp, by simp, by simp, by simp, by simp⟩
end Go.Proofs.YtbimpoabiafdaaaDoor
