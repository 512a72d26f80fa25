/- what lies in memory while the law's `ways` runs -/
import Derived.Test.YtbimpoabiafdaaaDoorHp
import Derived.Test.YtbimpoabiafdaaaDoorSt
import Derived.WalkSmall
import Derived.Maps.AppendAt
namespace Go.Proofs.YtbimpoabiafdaaaDoor
open Go.RowKit Vf
theorem info4 : (Tryd.prog.info? 4).map (fun i => (i.zero, i.size, i.bytes)) = some (some (.bool false), 1, 1) := by kernel_rfl
def bools (l : List Bool) : List Value := l.map .bool
theorem nats_len (l : List Nat) : (nats l).length = l.length := by simp [nats]
theorem nats_app (l m : List Nat) : nats (l ++ m) = nats l ++ nats m := by simp [nats]
theorem nats_one (l : List Nat) : ∀ u ∈ nats l, u.oneCell' = true := by
  intro u hu
  obtain ⟨x, _, rfl⟩ := List.mem_map.1 hu
  rfl
theorem nats_set (l : List Nat) (i h : Nat) : (nats l).toArray.setIfInBounds i (.int .i64 (h : Nat)) = (nats (l.set i h)).toArray := by
  simp [nats, List.map_set]
theorem bools_set (l : List Bool) (i : Nat) (b : Bool) : (bools l).toArray.setIfInBounds i (.bool b) = (bools (l.set i b)).toArray := by
  simp [bools, List.map_set]
theorem nats_at {l : List Nat} {k h : Nat} (hk : l[k]? = some h) : (nats l).toArray[k]? = some (.int .i64 (h : Nat)) := by simp [nats, hk]
theorem bools_at {l : List Bool} {k : Nat} {b : Bool} (hk : l[k]? = some b) : (bools l).toArray[k]? = some (.bool b) := by simp [bools, hk]
theorem made_nats (n : Nat) : (madeCells #[Value.int IntKind.i64 0] n).toList = nats (List.replicate n 0) := by
  apply List.ext_getElem?
  intro k
  by_cases hk : k < n <;> simp [madeCells, nats, hk, Nat.mod_one]
theorem made_bools (n : Nat) : (madeCells #[Value.bool false] n).toList = bools (List.replicate n false) := by
  apply List.ext_getElem?
  intro k
  by_cases hk : k < n <;> simp [madeCells, bools, hk, Nat.mod_one]
/-- the heights, the marks and the stack -/
structure WayAt (w : World) (g1 g2 B : Nat) (hs : List Nat) (seen : List Bool) (v : Value) (todo : List Nat) : Prop where
  h : w.heap[g1]? = some (.cells (nats hs).toArray 3 (0, 0))
  s : w.heap[g2]? = some (.cells (bools seen).toArray 4 (0, 0))
  t : w.ownsRow B 3 1 v todo.length (nats todo)
  ne : g1 ≠ g2
  l1 : g1 < B
  l2 : g2 < B
  hB : B ≤ w.heap.size
section
variable {w w' : World} {g1 g2 B : Nat} {hs : List Nat} {seen : List Bool} {v : Value} {todo : List Nat}
theorem wa_keep (h : WayAt w g1 g2 B hs seen v todo) (hb : Below w.heap.size w w') : WayAt w' g1 g2 B hs seen v todo :=
  ⟨(hb.block _ (heap_lt h.h)).trans h.h, (hb.block _ (heap_lt h.s)).trans h.s, row_keepTy h.t (keepTy_below hb 3), h.ne, h.l1, h.l2, Nat.le_trans h.hB hb.size⟩
theorem wa_own (h : WayAt w g1 g2 B hs seen v todo) {k : Nat} (hk : v.ownBlock = some k) : B ≤ k := (World.ownsRow.lt h.t k hk).1
theorem row_set_far {e s n : Nat} {xs : List Value} (h : w.ownsRow B e s v n xs) {g i : Nat} (hg : g < B) (x : Value) : (w.setCell ⟨g, i, none⟩ x).ownsRow B e s v n xs := by
  refine ⟨h.1, ?_⟩
  rcases h.2 with hn | ⟨g', cap, cur, rfl, hb, hh, rest⟩
  · exact .inl hn
  · exact .inr ⟨g', cap, cur, rfl, hb, heap_else hh (by omega) x, rest⟩
theorem wa_h (h : WayAt w g1 g2 B hs seen v todo) (i x : Nat) : WayAt (w.setCell ⟨g1, i, none⟩ (.int .i64 (x : Nat))) g1 g2 B (hs.set i x) seen v todo := by
  refine ⟨?_, heap_else h.s h.ne.symm _, row_set_far h.t h.l1 _, h.ne, h.l1, h.l2, by simpa using h.hB⟩
  rw [heap_set h.h, nats_set]
theorem wa_s (h : WayAt w g1 g2 B hs seen v todo) (i : Nat) (b : Bool) : WayAt (w.setCell ⟨g2, i, none⟩ (.bool b)) g1 g2 B hs (seen.set i b) v todo := by
  refine ⟨heap_else h.h h.ne _, ?_, row_set_far h.t h.l2 _, h.ne, h.l1, h.l2, by simpa using h.hB⟩
  rw [heap_set h.s, bools_set]
theorem wa_pop {i g cap : Nat} (h : WayAt w g1 g2 B hs seen (.slice (some ⟨g, 0, none⟩) (todo.length + 1) cap) (todo ++ [i])) : WayAt w g1 g2 B hs seen (.slice (some ⟨g, 0, none⟩) todo.length cap) todo := by
  have ht := h.t
  rw [List.length_append, List.length_singleton, nats_app] at ht
  exact ⟨h.h, h.s, ownsRow_pop (by rw [nats_len, Nat.mul_one]) ht, h.ne, h.l1, h.l2, h.hB⟩
theorem wa_top {i : Nat} (h : WayAt w g1 g2 B hs seen v (todo ++ [i])) : ∃ g cap, v = .slice (some ⟨g, 0, none⟩) (todo.length + 1) cap ∧ w.cell? ⟨g, todo.length, none⟩ = some (.int .i64 (i : Nat)) ∧ todo.length + 1 ≤ cap ∧ cap ≤ maxLen := by
  have ht := h.t
  rw [List.length_append, List.length_singleton] at ht
  rcases ht.2 with ⟨_, h0⟩ | ⟨g, cap, cur, rfl, _, hh, hn, hm, hsz, htk⟩
  · cases h0
  · refine ⟨g, cap, rfl, ?_, hn, hm⟩
    rw [cell_at hh]
    have h1 : (cur.toList.take ((todo.length + 1) * 1))[todo.length]? = (nats (todo ++ [i]))[todo.length]? := by rw [htk]
    rw [List.getElem?_take] at h1
    simpa [nats] using h1
theorem wa_form (h : WayAt w g1 g2 B hs seen v todo) : ∃ ao cap, v = .slice ao todo.length cap := row_shape h.t
end
set_option maxRecDepth 100000 in
theorem append_nat {ops : Array Oper} {rest : List Oper} {o : Oper} {a : Act} {Q : Exit → Act → World → Prop} (w : World) (g1 g2 B g : Nat) (hs : List Nat) (seen : List Bool) (v : Value) (todo : List Nat) (x : Nat) (hgd : o.guard = none) (s y : Operand)
    (ho : o.op = .call { callee := .builtin .append, args := #[s, y], argTypes := #[22, 22] }) (hv : a.eval s = v) (hy : a.eval y = .slice (some ⟨g, 0, none⟩) 1 1)
    (hW : WayAt w g1 g2 B hs seen v todo) (hh : w.heap[g]? = some (.cells #[.int .i64 (x : Nat)] 3 (0, 0))) (hl : todo.length ≤ 1099511627776)
    (h : ∀ v' w', WayAt w' g1 g2 B hs seen v' (todo ++ [x]) → Below B w w' → w.grownBy w' v.ownBlock → (v'.ownBlock = v.ownBlock ∨ v'.ownBlock = some w.heap.size) → wpList Tryd.prog ops Q rest (a.put o.dst v') w') :
    wpList Tryd.prog ops Q (o :: rest) a w := by
  obtain ⟨i0, hi, hz0, hz1, hz2⟩ := info_parts info3
  refine wpList_append_own_at w hgd s y 22 ho B 3 i0 (.int .i64 0) 1 8 Tryd.underlying22 hi hz0 hz1 hz2 rfl (by decide) v todo.length (nats todo) hv hW.t ⟨g, 0, none⟩ 1 1 (nats [x]) hy rfl ?_ (nats_one _) (by simp only [maxLen]; omega) (by omega) hW.hB ?_
  · intro j u hu
    have e : w.cell? ((⟨g, 0, none⟩ : Addr).add j) = w.cell? ⟨g, j, none⟩ := by rw [Addr.add_lit, Nat.zero_add]
    rw [e, cell_at hh]
    simpa [nats] using hu
  · intro v' w' hown' hg _ hat
    have hb : Below B w w' := (Below.refl B w).grown hg hW.hB (fun k hk => wa_own hW hk)
    refine h v' w' ⟨(hb.block _ hW.l1).trans hW.h, (hb.block _ hW.l2).trans hW.s, ?_, hW.ne, hW.l1, hW.l2, Nat.le_trans hW.hB hb.size⟩ hb hg hat
    rw [List.length_append, nats_app]
    exact hown'
end Go.Proofs.YtbimpoabiafdaaaDoor
