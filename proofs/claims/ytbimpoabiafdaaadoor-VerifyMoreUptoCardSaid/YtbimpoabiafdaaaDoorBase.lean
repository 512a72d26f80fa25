/- what lies in memory: blocks, bytes, readers, errors -/
import Derived.Test.YtbimpoabiafdaaaDoorProg
import Derived.Test.YtbimpoabiafdaaaDoorPl
import Derived.WalkKit
import Derived.WalkLawsBesides
import Derived.Deep.MidRow
import Derived.KernelRfl
import Derived.Lib.SmallJoins
import Derived.Laws.AppendOwnNone
import Derived.Laws.CopyOwn
import Derived.Deep.QuietTactic
import Derived.BigQuiet
import Derived.LaidEql
import Derived.WideLaws
import Derived.OwnWalk
import Derived.RangeFuncNested
import Derived.Deep.DeepCutAuto
namespace Go.Proofs.YtbimpoabiafdaaaDoor
open Go.RowKit
theorem ret_int {k : IntKind} {a b : Int} (h : a = b) : Ending.returned (.int k a) = .returned (.int k b) := by rw [h]
theorem hide {p : Prop} (h : p) : Hid p := h
theorem heap_lt {w : World} {g : Nat} {o : Obj} (h : w.heap[g]? = some o) : g < w.heap.size := (Array.getElem?_eq_some_iff.1 h).1
theorem heap_set {w : World} {g i : Nat} {cs : Array Value} {E : TypeId} {fr : Nat × Nat} (h : w.heap[g]? = some (.cells cs E fr)) (v : Value) :
    (w.setCell ⟨g, i, none⟩ v).heap[g]? = some (.cells (cs.setIfInBounds i v) E fr) := by
  simp only [World.setCell, Array.getElem?_modify, h]
  simp
theorem heap_old {w : World} {g : Nat} {o : Obj} (h : w.heap[g]? = some o) (x : Obj) : (w.alloc x).heap[g]? = some o := (Below.heap_alloc w x g (heap_lt h)).trans h
theorem heap_far {w : World} {g : Nat} {o : Obj} (h : w.heap[g]? = some o) {a : Addr} (ha : g ≠ a.block) (v : Value) : (w.setCell a v).heap[g]? = some o := (Below.heap_setCell w a v g ha).trans h
theorem heap_new {w : World} {g : Nat} (h : g = w.heap.size) (o : Obj) : (w.alloc o).heap[g]? = some o := by subst h; exact heap_alloc_new w o
theorem heap_else {w : World} {g b i : Nat} {o : Obj} (h : w.heap[g]? = some o) (hne : g ≠ b) (v : Value) : (w.setCell ⟨b, i, none⟩ v).heap[g]? = some o := heap_far h (a := ⟨b, i, none⟩) hne v
theorem below_set {B b i : Nat} {a w : World} (h : Below B a w) (hb : B ≤ b) (v : Value) : Below B a (w.setCell ⟨b, i, none⟩ v) := h.setCell (p := ⟨b, i, none⟩) hb v
theorem cell_at {w : World} {g : Nat} {cs : Array Value} {E : TypeId} {fr : Nat × Nat} (h : w.heap[g]? = some (.cells cs E fr)) (i : Nat) : w.cell? ⟨g, i, none⟩ = cs[i]? := by
  simp [World.cell?, h]
theorem free_at {w : World} {g : Nat} {cs : Array Value} {E : TypeId} (h : w.heap[g]? = some (.cells cs E (0, 0))) (i : Nat) : w.frozen? ⟨g, i, none⟩ = false := by
  simp [World.frozen?, h]
theorem range_at {w : World} {g : Nat} {cs : List Value} {E : TypeId} {fr : Nat × Nat} (h : w.heap[g]? = some (.cells cs.toArray E fr)) : w.rangeAt g 0 cs := fun j v hv => by
  rw [cell_at h]; simpa using hv
theorem there_at {w : World} {g : Nat} {cs : List Value} {E : TypeId} (h : w.heap[g]? = some (.cells cs.toArray E (0, 0))) : w.there g 0 cs.length := fun j hj => by
  refine ⟨?_, free_at h _⟩
  rw [cell_at h]; simp [hj]
theorem heap_setCells_any (g : Nat) (E : TypeId) (fr : Nat × Nat) : ∀ (vs : List Value) (o : Nat) (w : World) (C : Array Value), w.heap[g]? = some (.cells C E fr) →
    ∃ C' : Array Value, C'.size = C.size ∧ (w.setCells g o vs).heap[g]? = some (.cells C' E fr)
  | [], _, _, C, h => ⟨C, rfl, h⟩
  | v :: vs, o, w, C, h => by
    obtain ⟨C', h1, h2⟩ := heap_setCells_any g E fr vs (o + 1) (w.setCell ⟨g, o, none⟩ v) _ (heap_set h v)
    exact ⟨C', by simpa using h1, h2⟩
theorem heap_setCells {w : World} {g : Nat} {C : Array Value} {E : TypeId} {fr : Nat × Nat} (h : w.heap[g]? = some (.cells C E fr)) (vs : List Value) (hl : vs.length = C.size) :
    (w.setCells g 0 vs).heap[g]? = some (.cells vs.toArray E fr) := by
  obtain ⟨C', h1, h2⟩ := heap_setCells_any g E fr vs 0 w C h
  rw [h2]
  have : C' = vs.toArray := by
    apply Array.ext_getElem?
    intro j
    rw [← cell_at h2 j]
    by_cases hj : j < vs.length
    · have := World.cell?_setCells_in g vs 0 w (fun j hj => by rw [Nat.zero_add, cell_at h]; simp [hl ▸ hj]) j hj
      rw [Nat.zero_add] at this
      rw [this]; simp [hj]
    · rw [cell_at h2, Array.getElem?_eq_none (by omega), Array.getElem?_eq_none (by simp; omega)]
  rw [this]
theorem below_setCells {B g : Nat} (hg : B ≤ g) : ∀ (vs : List Value) (o : Nat) {a w : World}, Below B a w → Below B a (w.setCells g o vs)
  | [], _, _, _, h => h
  | v :: vs, o, _, _, h => below_setCells hg vs (o + 1) (h.setCell (p := ⟨g, o, none⟩) hg v)
theorem heap_setCells_far (g b : Nat) (hb : b ≠ g) : ∀ (vs : List Value) (o : Nat) (w : World), (w.setCells g o vs).heap[b]? = w.heap[b]?
  | [], _, _ => rfl
  | v :: vs, o, w => (heap_setCells_far g b hb vs (o + 1) _).trans (Below.heap_setCell w ⟨g, o, none⟩ v b hb)
theorem range_far {w : World} {b o : Nat} {cs : List Value} (h : w.rangeAt b o cs) {a : Addr} (hne : a.block ≠ b) (v : Value) : (w.setCell a v).rangeAt b o cs := fun j u hu => by
  rw [World.cell?_setCell_other w a v (b := ⟨b, o + j, none⟩) (fun e => hne (by rw [e]))]
  exact h j u hu
theorem heap_drew (w : World) : w.drew.heap = w.heap := rfl
/-- bytes in memory -/
def BytesAt (w : World) (ao : Option Addr) (bs : List Nat) : Prop :=
  (∀ x ∈ bs, x < 256) ∧ (bs = [] ∨ ∃ b off : Nat, ao = some ⟨b, off, none⟩ ∧ ∀ k x : Nat, bs[k]? = some x → w.cell? ⟨b, off + k, none⟩ = some (.int .u8 x))
def u8s (bs : List Nat) : List Value := bs.map fun (n : Nat) => Value.int .u8 (n : Int)
theorem u8s_len (bs : List Nat) : (u8s bs).length = bs.length := by simp [u8s]
theorem u8s_app (xs bs : List Nat) : u8s (xs ++ bs) = u8s xs ++ u8s bs := by simp [u8s]
theorem u8s_one (bs : List Nat) : ∀ u ∈ u8s bs, u.oneCell' = true := by
  intro u hu
  obtain ⟨n, _, rfl⟩ := List.mem_map.1 hu
  rfl
theorem info5 : (Tryd.prog.info? 5).map (fun i => (i.zero, i.size, i.bytes)) = some (some (.int .u8 0), 1, 1) := by kernel_rfl
theorem one_new (w : World) (u : Value) (E : TypeId) : ∀ (j : Nat) (x : Value), [u][j]? = some x → (w.alloc (.cells #[u] E)).cell? ((⟨w.heap.size, 0, none⟩ : Addr).add j) = some x := by
  intro j x hx
  match j, hx with
  | 0, hx => simp at hx; subst hx; simp [Addr.add]
theorem row_block {w : World} {B : Nat} {v : Value} {n : Nat} {xs : List Value} {p : Nat} {u : Value} {E : TypeId} (hE : E ≠ 5) (h : w.ownsRow B 5 1 v n xs) (hp : w.heap[p]? = some (.cells #[u] E (0, 0))) : v.ownBlock ≠ some p := by
  rcases h.2 with ⟨rfl, _⟩ | ⟨g, cap, cur, rfl, _, hg, _⟩
  · simp [Value.ownBlock]
  · simp only [Value.ownBlock]
    intro e
    obtain rfl := Option.some.inj e
    rw [hg] at hp
    simp only [Option.some.injEq, Obj.cells.injEq] at hp
    exact hE hp.2.1.symm
/-- a slice value that reads as these bytes -/
def Src (w : World) (v : Value) (bs : List Nat) : Prop :=
  (∀ x ∈ bs, x < 256) ∧ ((v = .slice none 0 0 ∧ bs = []) ∨ ∃ ad cap, v = .slice (some ad) bs.length cap ∧ bs.length ≤ cap ∧ cap ≤ 9223372036854775807 ∧ ∀ k x : Nat, bs[k]? = some x → w.cell? (ad.add k) = some (.int .u8 x))
theorem src_news {w : World} {ad : Addr} {bs : List Nat} (h : ∀ k x : Nat, bs[k]? = some x → w.cell? (ad.add k) = some (.int .u8 x)) :
    ∀ (j : Nat) (u : Value), (u8s bs)[j]? = some u → w.cell? (ad.add j) = some u := by
  intro j u hu
  simp only [u8s, List.getElem?_map, Option.map_eq_some_iff] at hu
  obtain ⟨x, hx, rfl⟩ := hu
  exact h j x hx
theorem src_bytes {w : World} {v : Value} {bs : List Nat} (h : Src w v bs) : ∃ ao cap, v = .slice ao bs.length cap ∧ BytesAt w ao bs := by
  rcases h with ⟨h1, ⟨rfl, rfl⟩ | ⟨ad, cap, rfl, _, _, hc⟩⟩
  · exact ⟨none, 0, rfl, h1, .inl rfl⟩
  · refine ⟨some ad, cap, rfl, h1, ?_⟩
    cases bs with
    | nil => exact .inl rfl
    | cons x bs =>
      right
      have h0 := hc 0 x rfl
      obtain ⟨b, off, sp⟩ := ad
      have hs : sp = none := by
        simp only [Addr.add, if_pos, World.cell?] at h0
        split at h0
        · split at h0
          · cases h0
          · rename_i hh; simpa using hh
        · cases h0
      subst hs
      exact ⟨b, off, rfl, fun k x hk => by rw [← Addr.add_mid]; exact hc k x hk⟩
theorem src_below {B : Nat} {w w' : World} {v : Value} {bs : List Nat} (h : Src w v bs) (hb : Below B w w') (hB : bs = [] ∨ ∀ ad, v.ownBlock = some ad → ad < B) : Src w' v bs := by
  rcases h with ⟨h1, h2 | ⟨ad, cap, rfl, hl, hm, hc⟩⟩
  · exact ⟨h1, .inl h2⟩
  · refine ⟨h1, .inr ⟨ad, cap, rfl, hl, hm, fun k x hk => ?_⟩⟩
    rcases hB with rfl | hB
    · simp at hk
    · rw [hb.cell (p := ad.add k) (by have := hB ad.block rfl; unfold Addr.add; split <;> exact this)]
      exact hc k x hk
/-- what a row that is owned reads as -/
theorem src_own {w : World} {B : Nat} {v : Value} {bs : List Nat} (h : w.ownsRow B 5 1 v bs.length (u8s bs)) (hx : ∀ x ∈ bs, x < 256) : Src w v bs := by
  refine ⟨hx, ?_⟩
  rcases Joins.ownsRow_forms h with ⟨rfl, h0⟩ | ⟨g, cap, rfl⟩
  · exact .inl ⟨rfl, List.eq_nil_of_length_eq_zero h0⟩
  · refine .inr ⟨_, cap, rfl, ?_, ?_, fun k x hk => ?_⟩
    · rcases h.2 with ⟨h0, _⟩ | ⟨g', cap', cur, hv, _, _, hl, _⟩
      · cases h0
      · simp only [Value.slice.injEq] at hv; omega
    · rcases h.2 with ⟨h0, _⟩ | ⟨g', cap', cur, hv, _, _, _, hm, _⟩
      · cases h0
      · simp only [Value.slice.injEq] at hv; unfold maxLen at hm; omega
    · exact h.cells rfl k _ (by simp [u8s, hk])
theorem below_drewN {B : Nat} {a w : World} (h : Below B a w) (n : Nat) : Below B a (w.drewN n) := ⟨h.os, h.tape, h.output, h.size, h.block⟩
/-- what came in reads as it did -/
theorem src_keep {w w' : World} {v : Value} {bs : List Nat} (h : Src w v bs) (hb : Below w.heap.size w w') : Src w' v bs := by
  rcases h with ⟨h1, h2 | ⟨ad, cap, rfl, hl, hm, hc⟩⟩
  · exact ⟨h1, .inl h2⟩
  · refine ⟨h1, .inr ⟨ad, cap, rfl, hl, hm, fun k x hk => ?_⟩⟩
    have h := hc k x hk
    rw [hb.cell (World.block_lt_of_cell? w _ h)]
    exact h
/-- a block of bytes that is known whole reads as its bytes -/
theorem src_block {w : World} {g : Nat} {bs : List Nat} {fr : Nat × Nat} (h : w.heap[g]? = some (.cells (u8s bs).toArray 5 fr)) (hx : ∀ x ∈ bs, x < 256) (hl : bs.length ≤ 9223372036854775807) : Src w (.slice (some ⟨g, 0, none⟩) bs.length bs.length) bs := by
  refine ⟨hx, .inr ⟨_, _, rfl, Nat.le_refl _, hl, fun k x hk => ?_⟩⟩
  rw [Addr.add_mid, Nat.zero_add, cell_at h]
  simp [u8s, hk]
/-- a package-level error -/
def ErrAt (w : World) (g : Nat) (a : Addr) : Prop := w.cell? ⟨g, 0, none⟩ = some (.iface 108 (.pointer (some a)))
theorem err_below {B : Nat} {w w' : World} {g : Nat} {a : Addr} (Z : ErrAt w g a) (h : Below B w w') (hg : g < B) : ErrAt w' g a := (h.cell (p := ⟨g, 0, none⟩) hg).trans Z
theorem size5 : (Tryd.prog.info? 5).map (·.size) = some 1 := by kernel_rfl
/-- the cells of a full row -/
theorem row_full {w : World} {B g n : Nat} {xs : List Value} (h : w.ownsRow B 5 1 (.slice (some ⟨g, 0, none⟩) n n) n xs) : w.heap[g]? = some (.cells xs.toArray 5 (0, 0)) := by
  rcases h.2 with ⟨h0, _⟩ | ⟨g', cap, cur, hv, _, hg, _, _, hs, ht⟩
  · cases h0
  · simp only [Value.slice.injEq, Option.some.injEq, Addr.mk.injEq] at hv
    obtain ⟨⟨rfl, _⟩, _, rfl⟩ := hv
    rw [hg]
    have : cur.toList = xs := by rw [← ht, List.take_of_length_le (by simp; omega)]
    rw [← this]
theorem row_of_heap {w : World} {B g : Nat} {xs : List Value} (hg : w.heap[g]? = some (.cells xs.toArray 5 (0, 0))) (hB : B ≤ g) (hl : xs.length ≤ 9223372036854775807) : w.ownsRow B 5 1 (.slice (some ⟨g, 0, none⟩) xs.length xs.length) xs.length xs :=
  ⟨by simp, .inr ⟨g, xs.length, xs.toArray, rfl, hB, hg, Nat.le_refl _, by unfold maxLen; omega, by simp, by simp⟩⟩
set_option maxRecDepth 100000 in
set_option maxHeartbeats 1000000 in
theorem concat_some (w : World) (g cap : Nat) (ao : Option Addr) (bs : List Nat) (hc : w.cell? ⟨g, 0, none⟩ = some (.slice ao bs.length cap)) (hn : bs.length ≤ 140737488355328)
    (hs : 0 < bs.length → ∃ ad, ao = some ad ∧ ∀ (j : Nat) (u : Value), (u8s bs)[j]? = some u → w.cell? (ad.add j) = some u) :
    Calls Tryd.prog 45 #[.slice (some ⟨g, 0, none⟩) 1 1] w fun e w' => e = .returned (.slice (some ⟨w.heap.size, 0, none⟩) bs.length bs.length) ∧ w'.heap[w.heap.size]? = some (.cells (u8s bs).toArray 5 (0, 0)) ∧ Below w.heap.size w w' := by
  obtain ⟨i0, hi, hz0, hz1, hz2⟩ := info_parts info5
  go_enter Tryd.func45, Tryd.ntmps45
  go_wp2
  refine wp_loop_rounds 2 ?_
  rw [rounds_succ]
  go_wp2
  rw [rounds_succ]
  go_wp2_with (at_make; refine wpList_make_full _ rfl (.tmp 21) (.tmp 21) 25 rfl w.heap.size 5 i0 (.int .u8 0) 1 Tryd.underlying25 hi hz0 hz1 _ _ _ _ bs.length rfl rfl rfl rfl ?_ ?_ (Nat.le_refl _) ?_)
  case refine_1 => rw [hz2]; omega
  case refine_2 => unfold maxLen; omega
  intro w1 hown hg
  have hcell1 := (hg.cell hc (by simp))
  have hB := (Below.refl w.heap.size w).grown hg (Nat.le_refl _) (fun k hk => by cases hk)
  have hrow := row_full hown
  have hml : (madeCells #[Value.int IntKind.u8 0] bs.length).toList.length = bs.length := by simp [madeCells]
  have hsrc : 0 < bs.length → ∃ ad, ao = some ad ∧ ∀ (j : Nat) (u : Value), (u8s bs)[j]? = some u → w1.cell? (ad.add j) = some u := fun h0 => by
    obtain ⟨ad, h1, h2⟩ := hs h0
    exact ⟨ad, h1, fun j u hu => hg.cell (h2 j u hu) (by simp)⟩
  generalize (madeCells #[Value.int IntKind.u8 0] bs.length).toList = Z at hrow hml
  have HR := hide hrow
  have HS := hide hsrc
  have HB := hide hB
  clear hown hg hrow hs hsrc hc hB
  have hsp : splice Z 0 (u8s bs) = u8s bs := by
    unfold splice
    rw [List.take_zero, List.nil_append, List.drop_eq_nil_of_le (by rw [u8s_len]; omega), List.append_nil]
  have HSP := hide hsp
  have HML := hide hml
  have hul := u8s_len bs
  have HUL := hide hul
  clear hsp hml hul
  by_cases h0 : bs.length = 0
  · have hn0 : bs = [] := List.eq_nil_of_length_eq_zero h0
    clear h0
    subst hn0
    go_wp2
    refine wp_loop_rounds 2 ?_
    rw [rounds_succ]
    go_wp2_with (refine wpList_copy_splice rfl (.tmp 32) (.tmp 33) 25 25 rfl 5 Tryd.underlying25 size5 (some ⟨w.heap.size, 0, none⟩) ao 0 0 0 cap rfl rfl w.heap.size 0 Z 5 HR.out (u8s []) ?_ ?_ ?_ ?_ w.heap.size w HB.out (Nat.le_refl _) ?_)
    case refine_1 => rfl
    case refine_2 => exact fun h => absurd h (by decide)
    case refine_3 => simp [u8s]
    case refine_4 => exact u8s_one _
    intro w2 hR2 hB2
    have HB2 := hide hB2
    clear hB2
    go_wp2
    rw [rounds_succ]
    go_wp2
    go_ret
    refine ⟨rfl, ?_, HB2.out⟩
    have := hR2.out
    rw [HSP.out] at this
    exact this
  · have hpos : 0 < bs.length := by omega
    go_wp2
    refine wp_loop_rounds 2 ?_
    rw [rounds_succ]
    go_wp2_with (refine wpList_copy_splice rfl (.tmp 32) (.tmp 33) 25 25 rfl 5 Tryd.underlying25 size5 (some ⟨w.heap.size, 0, none⟩) ao bs.length bs.length bs.length cap rfl rfl w.heap.size 0 Z 5 HR.out (u8s bs) ?_ ?_ ?_ ?_ w.heap.size w HB.out (Nat.le_refl _) ?_)
    case refine_1 => rw [HUL.out]; simp
    case refine_2 =>
      intro _
      obtain ⟨ad, h1, h2⟩ := HS.out hpos
      exact ⟨ad, h1, h2⟩
    case refine_3 => have h1 := HML.out; have h2 := HUL.out; omega
    case refine_4 => exact u8s_one _
    intro w2 hR2 hB2
    have HB2 := hide hB2
    have hul := HUL.out
    clear hB2
    go_wp2
    rw [rounds_succ]
    go_wp2
    go_ret
    refine ⟨rfl, ?_, HB2.out⟩
    have := hR2.out
    rw [HSP.out] at this
    exact this
theorem concat_any (w : World) (g : Nat) (v : Value) (bs : List Nat) (hc : w.cell? ⟨g, 0, none⟩ = some v) (hs : Src w v bs) (hn : bs.length ≤ 140737488355328) :
    Calls Tryd.prog 45 #[.slice (some ⟨g, 0, none⟩) 1 1] w fun e w' => e = .returned (.slice (some ⟨w.heap.size, 0, none⟩) bs.length bs.length) ∧ w'.heap[w.heap.size]? = some (.cells (u8s bs).toArray 5 (0, 0)) ∧ Below w.heap.size w w' := by
  rcases hs with ⟨_, ⟨rfl, rfl⟩ | ⟨ad, cap, rfl, _, _, hs⟩⟩
  · exact concat_some w g 0 none [] hc hn (fun h => absurd h (by decide))
  · exact concat_some w g cap (some ad) bs hc hn (fun _ => ⟨ad, rfl, src_news hs⟩)
/-- an own row of bytes at or above B -/
def Own (w : World) (B : Nat) (v : Value) (bs : List Nat) : Prop := w.ownsRow B 5 1 v bs.length (u8s bs)
set_option maxRecDepth 100000 in
theorem append_src {ops : Array Oper} {rest : List Oper} {o : Oper} {a : Act} {Q : Exit → Act → World → Prop} (w0 w : World) (B : Nat) (v xv : Value) (cur bs : List Nat) (hgd : o.guard = none) (s x : Operand)
    (ho : o.op = .call { callee := .builtin .append, args := #[s, x], argTypes := #[25, 25] }) (hs : a.eval s = v) (hx : a.eval x = xv)
    (hown : Own w B v cur) (hsrc : Src w xv bs) (hl : cur.length + bs.length ≤ 140737488355328) (hB : B ≤ w.heap.size) (hb : Below B w0 w)
    (h : ∀ v' w', Own w' B v' (cur ++ bs) → Below B w0 w' → wpList Tryd.prog ops Q rest (a.put o.dst v') w') :
    wpList Tryd.prog ops Q (o :: rest) a w := by
  obtain ⟨i0, hi, hz0, hz1, hz2⟩ := info_parts info5
  rcases hsrc with ⟨_, ⟨rfl, rfl⟩ | ⟨ad, cap, rfl, _, _, hc⟩⟩
  · refine wpList_append_own_none hgd s x 25 ho B 5 i0 1 Tryd.underlying25 hi v cur.length (u8s cur) hs hown hx (h v w ?_ hb)
    rw [List.append_nil]
    exact hown
  · refine wpList_append_own w hgd s x 25 ho B 5 i0 (.int .u8 0) 1 1 Tryd.underlying25 hi hz0 hz1 hz2 rfl (by decide) v cur.length (u8s cur) hs hown ad bs.length cap (u8s bs) hx (by simp [u8s_len]) (src_news hc) (u8s_one _) (by simp only [maxLen]; omega) (by omega) hB ?_
    intro v' w' hown' hg _
    refine h v' w' ?_ (hb.grown hg hB (fun k hk => (World.ownsRow.lt hown k hk).1))
    unfold Own
    rw [u8s_app, List.length_append]
    exact hown'
theorem own_src {w : World} {B : Nat} {v : Value} {bs : List Nat} (h : Own w B v bs) (hx : ∀ x ∈ bs, x < 256) : Src w v bs := src_own h hx
theorem own_lit (w : World) (B : Nat) (bs : List Nat) (hB : B ≤ w.heap.size) (hl : bs.length ≤ 9223372036854775807) (cs : Array Value) (hcs : cs = (u8s bs).toArray) :
    Own (w.alloc (.cells cs 5)) B (.slice (some ⟨w.heap.size, 0, none⟩) bs.length bs.length) bs := by
  subst hcs
  have h := World.ownsRow_lit (base := B) (e := 5) (size := 1) w (u8s bs).toArray bs.length hB (by simp only [maxLen]; omega) (by simp [u8s_len])
  simpa [Own] using h
theorem own_keep {w w' : World} {B : Nat} {v : Value} {bs : List Nat} (h : Own w B v bs) (hb : Below w.heap.size w w') : Own w' B v bs :=
  World.ownsRow.kept (row := none) h ⟨hb.os, hb.tape, hb.output, hb.size, fun k hk _ => hb.block k hk⟩ (by cases hv : v.ownBlock <;> simp)
theorem own_form {w : World} {B : Nat} {v : Value} {bs : List Nat} (h : Own w B v bs) (hl : 0 < bs.length) : ∃ g cap, v = .slice (some ⟨g, 0, none⟩) bs.length cap := Joins.ownsRow_form h hl
/-- the shape of a byte slice's value -/
theorem src_form {w : World} {v : Value} {bs : List Nat} (h : Src w v bs) : ∃ ao cap, v = .slice ao bs.length cap := by
  obtain ⟨ao, cap, h, _⟩ := src_bytes h
  exact ⟨ao, cap, h⟩
/-- a part of a source -/
theorem src_part {w : World} {ad : Addr} {n cap : Nat} {bs : List Nat} (h : Src w (.slice (some ad) n cap) bs) (i j c : Nat) (hij : i ≤ j) (hj : j ≤ bs.length) (hc : j - i ≤ c) (hc2 : c ≤ 9223372036854775807) :
    Src w (.slice (some (ad.add i)) (j - i) c) ((bs.take j).drop i) := by
  have hl : ((bs.take j).drop i).length = j - i := by rw [List.length_drop, List.length_take]; omega
  refine ⟨fun x hx => h.1 x (List.mem_of_mem_take (List.mem_of_mem_drop hx)), .inr ⟨ad.add i, c, by rw [hl], by omega, hc2, fun k x hk => ?_⟩⟩
  rcases h with ⟨_, ⟨h1, _⟩ | ⟨ad', c', h1, _, _, hcell⟩⟩
  · simp at h1
  · simp only [Value.slice.injEq, Option.some.injEq] at h1
    obtain ⟨rfl, _, _⟩ := h1
    rw [Addr.add_add]
    refine hcell (i + k) x ?_
    rw [List.getElem?_drop, List.getElem?_take] at hk
    split at hk
    · exact hk
    · simp at hk
/-- the listed errors: each is a pointer to a block of its own -/
structure Errs (w : World) (E : Nat → Addr) (ids : List Nat) : Prop where
  cell : ∀ g ∈ ids, ErrAt w g (E g)
  blk : ∀ g ∈ ids, ∃ c t, w.heap[(E g).block]? = some (.cells c t (0, 0))
  inj : ∀ g ∈ ids, ∀ h ∈ ids, g ≠ h → E g ≠ E h
theorem Errs.below {B : Nat} {w w' : World} {E : Nat → Addr} {ids : List Nat} (h : Errs w E ids) (hb : Below B w w') (hB : w.heap.size ≤ B) (hg : ∀ g ∈ ids, g < B) : Errs w' E ids := by
  refine ⟨fun g hg' => err_below (h.cell g hg') hb (hg g hg'), fun g hg' => ?_, h.inj⟩
  obtain ⟨c, t, hc⟩ := h.blk g hg'
  exact ⟨c, t, (hb.block _ (Nat.lt_of_lt_of_le (heap_lt hc) hB)).trans hc⟩
theorem Errs.mono {w : World} {E : Nat → Addr} {ids js : List Nat} (h : Errs w E ids) (hs : ∀ g ∈ js, g ∈ ids) : Errs w E js :=
  ⟨fun g hg => h.cell g (hs g hg), fun g hg => h.blk g (hs g hg), fun g hg k hk => h.inj g (hs g hg) k (hs k hk)⟩
theorem comp108 : (Tryd.prog.info? 108).map (·.comparable) = some true := by kernel_rfl
theorem size125 : (Tryd.prog.info? 125).map (·.size) = some 1 := by kernel_rfl
theorem err_same (w : World) (a : Addr) : (binOp .eql 33 (.iface 108 (.pointer (some a))) (.iface 108 (.pointer (some a)))).run Tryd.prog w = .ok (.bool true) w := by
  have h1 := comp108
  have h2 := size125
  cases hi : Tryd.prog.info? 108 with
  | none => rw [hi] at h1; cases h1
  | some i =>
    cases hj : Tryd.prog.info? 125 with
    | none => rw [hj] at h2; cases h2
    | some j =>
      rw [hi] at h1
      exact run_eql_iface_ptr_same w a Tryd.underlying33 Tryd.underlying108 hi (by simpa using h1) hj
theorem err_other (w : World) {a b : Addr} {ca cb : Array Value} {ta tb : TypeId} (hne : a ≠ b) (ha : w.heap[a.block]? = some (.cells ca ta (0, 0))) (hb : w.heap[b.block]? = some (.cells cb tb (0, 0))) :
    (binOp .eql 33 (.iface 108 (.pointer (some a))) (.iface 108 (.pointer (some b)))).run Tryd.prog w = .ok (.bool false) w := by
  have h1 := comp108
  have h2 := size125
  cases hi : Tryd.prog.info? 108 with
  | none => rw [hi] at h1; cases h1
  | some i =>
    cases hj : Tryd.prog.info? 125 with
    | none => rw [hj] at h2; cases h2
    | some j =>
      rw [hi] at h1
      rw [hj] at h2
      exact run_eql_iface_ptr_other w Tryd.underlying33 Tryd.underlying108 hi (by simpa using h1) hj (by simp at h2; omega) hne ha hb
theorem Errs.eq_other {w : World} {E : Nat → Addr} {ids : List Nat} (h : Errs w E ids) (g k : Nat) (hg : g ∈ ids) (hk : k ∈ ids) (hne : g ≠ k) :
    (binOp .eql 33 (.iface 108 (.pointer (some (E g)))) (.iface 108 (.pointer (some (E k))))).run Tryd.prog w = .ok (.bool false) w := by
  obtain ⟨ca, ta, ha⟩ := h.blk g hg
  obtain ⟨cb, tb, hb⟩ := h.blk k hk
  exact err_other w (h.inj g hg k hk hne) ha hb
theorem num_nil (w : World) : Calls Tryd.prog 14 #[.nilIface] w fun e w' => e = .returned (.int .i64 0) ∧ w = w' := by
  go_enter Tryd.func14, Tryd.ntmps14
  go_wp2
  go_ret
  exact ⟨rfl, rfl⟩
def RdAt (w : World) (p at_ : Nat) (bv : Value) (n : Nat) : Prop := w.heap[p]? = some (.cells #[.int .i64 at_, .int .i64 n, bv] 78 (0, 0))
theorem cells3 {w : World} {p : Nat} {a b c : Value} {t : TypeId} {fr : Nat × Nat} (h : w.heap[p]? = some (.cells #[a, b, c] t fr)) :
    w.cell? ⟨p, 0, none⟩ = some a ∧ w.cell? ⟨p, 1, none⟩ = some b ∧ w.cell? ⟨p, 2, none⟩ = some c := by
  refine ⟨?_, ?_, ?_⟩
  · rw [cell_at h]; rfl
  · rw [cell_at h]; rfl
  · rw [cell_at h]; rfl
theorem left_any (w : World) (p a n : Nat) (bv : Value) (h : RdAt w p a bv n) (hn : a ≤ n) (hn2 : n ≤ 9223372036854775807) :
    Calls Tryd.prog 31 #[.pointer (some ⟨p, 0, none⟩)] w fun e w' => e = .returned (.int .i64 ((n : Int) - a)) ∧ ∃ q, w' = w.drewN q := by
  obtain ⟨h0, h1, h2⟩ := cells3 h
  clear h
  have hw : IntKind.i64.wrap ((n : Int) - a) = (n : Int) - a := by rw [IntKind.wrap_i64]; omega
  go_enter Tryd.func31, Tryd.ntmps31
  go_wp2
  go_quiet (fail)
  go_wp2
  go_ret
  exact ⟨rfl, _, rfl⟩
set_option maxRecDepth 100000 in
theorem new_reader (w : World) (v : Value) (bs : List Nat) (hs : Src w v bs) (hn : bs.length ≤ 140737488355328) :
    Calls Tryd.prog 30 #[v] w fun e w' => ∃ p bv, e = .returned (.pointer (some ⟨p, 0, none⟩)) ∧ w.heap.size ≤ p ∧ RdAt w' p 0 bv bs.length ∧ Src w' bv bs ∧ Below w.heap.size w w' := by
  obtain ⟨ao, cap, rfl⟩ := src_form hs
  have HS := hide hs
  clear hs
  go_enter Tryd.func30, Tryd.ntmps30
  go_wp2_with fail
  have HBA := hide ((Below.refl w.heap.size w).alloc (Nat.le_refl _) (.cells #[.slice ao bs.length cap] 25))
  refine (concat_any _ w.heap.size (.slice ao bs.length cap) bs (by rw [World.cell?_alloc_new]; rfl) (src_keep HS.out HBA.out) hn).mono ?_
  rintro e w1 ⟨rfl, hh, hb⟩
  have HB1 := hide (HBA.out.trans (hb.mono HBA.out.size))
  rw [World.size_alloc] at hh
  have HS1 := hide (src_block hh HS.out.1 (by omega))
  clear hh hb
  go_wp2
  go_ret
  exact ⟨w1.heap.size, _, rfl, HB1.out.size, heap_new rfl _, src_keep HS1.out ((Below.refl _ _).alloc (Nat.le_refl _) _), HB1.out.alloc HB1.out.size _⟩
theorem rd_drew {w : World} {p a n : Nat} {bv : Value} (h : RdAt w p a bv n) (q : Nat) : RdAt (w.drewN q) p a bv n := h
theorem src_drew {w : World} {v : Value} {bs : List Nat} (h : Src w v bs) (q : Nat) : Src (w.drewN q) v bs := src_keep h (below_drewN (Below.refl _ _) q)
theorem rd_set {w : World} {p a n : Nat} {bv : Value} (h : RdAt w p a bv n) (b : Nat) : RdAt (w.setCell ⟨p, 0, none⟩ (.int .i64 (b : Nat))) p b bv n := heap_set h _
theorem src_cell {w : World} {ao : Option Addr} {n cap i x : Nat} {bs : List Nat} (h : Src w (.slice ao n cap) bs) (hx : bs[i]? = some x) : ∃ ad, ao = some ad ∧ w.cell? (ad.add i) = some (.int .u8 x) := by
  rcases h with ⟨_, ⟨_, rfl⟩ | ⟨ad, c, hv, _, _, hc⟩⟩
  · simp at hx
  · simp only [Value.slice.injEq] at hv
    exact ⟨ad, hv.1, hc i x hx⟩
theorem grown_of_below {A C : World} (h : Below A.heap.size A C) : A.grownBy C none := ⟨h.os, h.tape, h.output, h.size, fun k hk _ => h.block k hk⟩
/-- the block that turns is no block of cells of type e -/
def NotTy (w : World) (row : Option Nat) (e : TypeId) : Prop := ∀ r, row = some r → ∀ cs fr, w.heap[r]? ≠ some (.cells cs e fr)
theorem notTy_none (w : World) (e : TypeId) : NotTy w none e := fun _ h => by cases h
theorem notTy_row {w : World} {B e s n : Nat} {v : Value} {xs : List Value} (h : w.ownsRow B e s v n xs) {t : TypeId} (hne : e ≠ t) : NotTy w v.ownBlock t := by
  intro r hr cs fr hc
  rcases h.2 with ⟨rfl, _⟩ | ⟨g, cap, cur, rfl, _, hh, _⟩
  · simp [Value.ownBlock] at hr
  · simp only [Value.ownBlock, Option.some.injEq] at hr
    subst hr
    rw [hh] at hc
    simp only [Option.some.injEq, Obj.cells.injEq] at hc
    exact hne hc.2.1
theorem row_kept {w w' : World} {B e s n : Nat} {v : Value} {xs : List Value} {row : Option Nat} (h : w.ownsRow B e s v n xs) (hg : w.grownBy w' row) (ht : NotTy w row e) : w'.ownsRow B e s v n xs := by
  refine World.ownsRow.kept h hg ?_
  rcases h.2 with ⟨rfl, _⟩ | ⟨g, cap, cur, rfl, _, hh, _⟩
  · exact .inl rfl
  · exact .inr (fun e' => ht g (by simpa [Value.ownBlock] using e'.symm) _ _ hh)
theorem row_shape {w : World} {B e s n : Nat} {v : Value} {xs : List Value} (h : w.ownsRow B e s v n xs) : ∃ ao cap, v = .slice ao n cap := by
  rcases h.2 with ⟨rfl, rfl⟩ | ⟨g, cap, cur, rfl, _⟩
  · exact ⟨none, 0, rfl⟩
  · exact ⟨_, cap, rfl⟩
theorem row_mono {w : World} {B B' e s n : Nat} {v : Value} {xs : List Value} (h : w.ownsRow B e s v n xs) (hB : B' ≤ B) : w.ownsRow B' e s v n xs := by
  refine ⟨h.1, ?_⟩
  rcases h.2 with h | ⟨g, cap, cur, rfl, hb, hh, hn⟩
  · exact .inl h
  · exact .inr ⟨g, cap, cur, rfl, by omega, hh, hn⟩
/-- all blocks of cells of type t lie as they lay -/
def KeepTy (W W' : World) (t : TypeId) : Prop := ∀ (k : Nat) (cs : Array Value) (fr : Nat × Nat), W.heap[k]? = some (.cells cs t fr) → W'.heap[k]? = some (.cells cs t fr)
theorem KeepTy.trans {A B C : World} {t : TypeId} (h : KeepTy A B t) (k : KeepTy B C t) : KeepTy A C t := fun i cs fr hi => k i cs fr (h i cs fr hi)
theorem keepTy_grown {W W' : World} {row : Option Nat} {t : TypeId} (hg : W.grownBy W' row) (hn : NotTy W row t) : KeepTy W W' t := fun k _ _ hk =>
  (hg.block k (heap_lt hk) (fun e => hn k e.symm _ _ hk)).trans hk
theorem keepTy_below {W W' : World} (hb : Below W.heap.size W W') (t : TypeId) : KeepTy W W' t := keepTy_grown (grown_of_below hb) (notTy_none _ _)
theorem row_keepTy {w w' : World} {B e s n : Nat} {v : Value} {xs : List Value} (h : w.ownsRow B e s v n xs) (hk : KeepTy w w' e) : w'.ownsRow B e s v n xs := by
  refine ⟨h.1, ?_⟩
  rcases h.2 with h | ⟨g, cap, cur, rfl, hb, hh, hn⟩
  · exact .inl h
  · exact .inr ⟨g, cap, cur, rfl, hb, hk _ _ _ hh, hn⟩
end Go.Proofs.YtbimpoabiafdaaaDoor
