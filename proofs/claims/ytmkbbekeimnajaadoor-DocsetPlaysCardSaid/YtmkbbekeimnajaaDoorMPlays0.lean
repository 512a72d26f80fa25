/- texts of this proof, one behind the other: Uv Base -/
import Derived.Test.YtmkbbekeimnajaaDoorProg
import Derived.WalkKit
import Derived.WalkLawsBesides
import Derived.Deep.MidRow
import Derived.KernelRfl
import Derived.Lib.SmallJoins
import Derived.Laws.AppendOwnNone
import Derived.Laws.CopyOwn
import Derived.Deep.QuietTactic
import Derived.BigQuiet
import Derived.LaidEql
import Derived.WideLaws
import Derived.OwnWalk
import Derived.RangeFuncNested
import Derived.Deep.DeepCutAuto
import Derived.Deep.AppendLies
/-! Uv: plain: a number's bytes -/
namespace Uv
/-- seven bits a byte, the lowest first; at most f + 1 bytes -/
def uvf : Nat → Nat → List Nat
  | 0, x => [x]
  | f + 1, x => if x < 128 then [x] else (x % 128 + 128) :: uvf f (x / 128)
def uv (x : Nat) : List Nat := uvf 9 x
theorem uvf_small (f x : Nat) (h : x < 128) : uvf f x = [x] := by
  cases f with
  | zero => rfl
  | succ f => rw [uvf, if_pos h]
theorem uvf_great (f x : Nat) (h : 128 ≤ x) : uvf (f + 1) x = (x % 128 + 128) :: uvf f (x / 128) := by rw [uvf, if_neg (by omega)]
theorem uvf_lt : ∀ (f x : Nat), x < 128 ^ (f + 1) → ∀ y ∈ uvf f x, y < 256
  | 0, x, h, y, hy => by
    simp [uvf] at hy
    subst hy
    simp at h
    omega
  | f + 1, x, h, y, hy => by
    by_cases hx : x < 128
    · rw [uvf_small _ _ hx] at hy; simp at hy; omega
    · rw [uvf_great _ _ (by omega)] at hy
      rcases List.mem_cons.1 hy with rfl | hy
      · omega
      · refine uvf_lt f (x / 128) ?_ y hy
        rw [Nat.div_lt_iff_lt_mul (by omega)]
        rw [Nat.pow_succ] at h
        exact h
theorem uv_lt (x : Nat) (h : x < 18446744073709551616) : ∀ y ∈ uv x, y < 256 := uvf_lt 9 x (by omega)
theorem uvf_len : ∀ (f x : Nat), (uvf f x).length ≤ f + 1 ∧ 1 ≤ (uvf f x).length
  | 0, x => by simp [uvf]
  | f + 1, x => by
    have := uvf_len f (x / 128)
    rw [uvf]
    split <;> simp <;> omega
theorem uv_len (x : Nat) : (uv x).length ≤ 10 ∧ 1 ≤ (uv x).length := uvf_len 9 x
theorem or128 : ∀ y, y < 256 → y ||| 128 = y % 128 + 128 := by decide +kernel
/-- the four bytes of a word -/
def word (v : Nat) : List Nat := [v % 256, v / 256 % 256, v / 65536 % 256, v / 16777216 % 256]
/-- the numbers of 64 bits are below this -/
def u64 : Nat := 18446744073709551616
theorem u64_eq : u64 = 18446744073709551616 := rfl
theorem half_u64 {x : Nat} (k : Nat) (h : x < u64) : x / k < u64 := Nat.lt_of_le_of_lt (Nat.div_le_self _ _) h
theorem start_u64 {x : Nat} (h : x < u64) : x < 128 ^ (9 + 1) := by rw [u64_eq] at h; omega
end Uv

/-! Base: what lies in memory: blocks, bytes, writers, readers, errors -/
namespace Go.Proofs.YtmkbbekeimnajaaDoor
open Go.RowKit
theorem ret_int {k : IntKind} {a b : Int} (h : a = b) : Ending.returned (.int k a) = .returned (.int k b) := by rw [h]
theorem hide {p : Prop} (h : p) : Hid p := h
theorem heap_lt {w : World} {g : Nat} {o : Obj} (h : w.heap[g]? = some o) : g < w.heap.size := (Array.getElem?_eq_some_iff.1 h).1
theorem heap_set {w : World} {g i : Nat} {cs : Array Value} {E : TypeId} {fr : Nat × Nat} (h : w.heap[g]? = some (.cells cs E fr)) (v : Value) :
    (w.setCell ⟨g, i, none⟩ v).heap[g]? = some (.cells (cs.setIfInBounds i v) E fr) := by
  simp only [World.setCell, Array.getElem?_modify, h]
  simp
theorem heap_old {w : World} {g : Nat} {o : Obj} (h : w.heap[g]? = some o) (x : Obj) : (w.alloc x).heap[g]? = some o := (Below.heap_alloc w x g (heap_lt h)).trans h
theorem heap_far {w : World} {g : Nat} {o : Obj} (h : w.heap[g]? = some o) {a : Addr} (ha : g ≠ a.block) (v : Value) : (w.setCell a v).heap[g]? = some o := (Below.heap_setCell w a v g ha).trans h
theorem heap_new {w : World} {g : Nat} (h : g = w.heap.size) (o : Obj) : (w.alloc o).heap[g]? = some o := by subst h; exact heap_alloc_new w o
theorem heap_else {w : World} {g b i : Nat} {o : Obj} (h : w.heap[g]? = some o) (hne : g ≠ b) (v : Value) : (w.setCell ⟨b, i, none⟩ v).heap[g]? = some o := heap_far h (a := ⟨b, i, none⟩) hne v
theorem below_set {B b i : Nat} {a w : World} (h : Below B a w) (hb : B ≤ b) (v : Value) : Below B a (w.setCell ⟨b, i, none⟩ v) := h.setCell (p := ⟨b, i, none⟩) hb v
theorem cell_at {w : World} {g : Nat} {cs : Array Value} {E : TypeId} {fr : Nat × Nat} (h : w.heap[g]? = some (.cells cs E fr)) (i : Nat) : w.cell? ⟨g, i, none⟩ = cs[i]? := by
  simp [World.cell?, h]
theorem free_at {w : World} {g : Nat} {cs : Array Value} {E : TypeId} (h : w.heap[g]? = some (.cells cs E (0, 0))) (i : Nat) : w.frozen? ⟨g, i, none⟩ = false := by
  simp [World.frozen?, h]
theorem range_at {w : World} {g : Nat} {cs : List Value} {E : TypeId} {fr : Nat × Nat} (h : w.heap[g]? = some (.cells cs.toArray E fr)) : w.rangeAt g 0 cs := fun j v hv => by
  rw [cell_at h]; simpa using hv
theorem there_at {w : World} {g : Nat} {cs : List Value} {E : TypeId} (h : w.heap[g]? = some (.cells cs.toArray E (0, 0))) : w.there g 0 cs.length := fun j hj => by
  refine ⟨?_, free_at h _⟩
  rw [cell_at h]; simp [hj]
theorem heap_setCells_any (g : Nat) (E : TypeId) (fr : Nat × Nat) : ∀ (vs : List Value) (o : Nat) (w : World) (C : Array Value), w.heap[g]? = some (.cells C E fr) →
    ∃ C' : Array Value, C'.size = C.size ∧ (w.setCells g o vs).heap[g]? = some (.cells C' E fr)
  | [], _, _, C, h => ⟨C, rfl, h⟩
  | v :: vs, o, w, C, h => by
    obtain ⟨C', h1, h2⟩ := heap_setCells_any g E fr vs (o + 1) (w.setCell ⟨g, o, none⟩ v) _ (heap_set h v)
    exact ⟨C', by simpa using h1, h2⟩
theorem heap_setCells {w : World} {g : Nat} {C : Array Value} {E : TypeId} {fr : Nat × Nat} (h : w.heap[g]? = some (.cells C E fr)) (vs : List Value) (hl : vs.length = C.size) :
    (w.setCells g 0 vs).heap[g]? = some (.cells vs.toArray E fr) := by
  obtain ⟨C', h1, h2⟩ := heap_setCells_any g E fr vs 0 w C h
  rw [h2]
  have : C' = vs.toArray := by
    apply Array.ext_getElem?
    intro j
    rw [← cell_at h2 j]
    by_cases hj : j < vs.length
    · have := World.cell?_setCells_in g vs 0 w (fun j hj => by rw [Nat.zero_add, cell_at h]; simp [hl ▸ hj]) j hj
      rw [Nat.zero_add] at this
      rw [this]; simp [hj]
    · rw [cell_at h2, Array.getElem?_eq_none (by omega), Array.getElem?_eq_none (by simp; omega)]
  rw [this]
theorem below_setCells {B g : Nat} (hg : B ≤ g) : ∀ (vs : List Value) (o : Nat) {a w : World}, Below B a w → Below B a (w.setCells g o vs)
  | [], _, _, _, h => h
  | v :: vs, o, _, _, h => below_setCells hg vs (o + 1) (h.setCell (p := ⟨g, o, none⟩) hg v)
theorem heap_setCells_far (g b : Nat) (hb : b ≠ g) : ∀ (vs : List Value) (o : Nat) (w : World), (w.setCells g o vs).heap[b]? = w.heap[b]?
  | [], _, _ => rfl
  | v :: vs, o, w => (heap_setCells_far g b hb vs (o + 1) _).trans (Below.heap_setCell w ⟨g, o, none⟩ v b hb)
theorem range_far {w : World} {b o : Nat} {cs : List Value} (h : w.rangeAt b o cs) {a : Addr} (hne : a.block ≠ b) (v : Value) : (w.setCell a v).rangeAt b o cs := fun j u hu => by
  rw [World.cell?_setCell_other w a v (b := ⟨b, o + j, none⟩) (fun e => hne (by rw [e]))]
  exact h j u hu
theorem heap_drew (w : World) : w.drew.heap = w.heap := rfl
/-- bytes in memory -/
def BytesAt (w : World) (ao : Option Addr) (bs : List Nat) : Prop :=
  (∀ x ∈ bs, x < 256) ∧ (bs = [] ∨ ∃ b off : Nat, ao = some ⟨b, off, none⟩ ∧ ∀ k x : Nat, bs[k]? = some x → w.cell? ⟨b, off + k, none⟩ = some (.int .u8 x))
def u8s (bs : List Nat) : List Value := bs.map fun (n : Nat) => Value.int .u8 (n : Int)
theorem u8s_len (bs : List Nat) : (u8s bs).length = bs.length := by simp [u8s]
theorem u8s_app (xs bs : List Nat) : u8s (xs ++ bs) = u8s xs ++ u8s bs := by simp [u8s]
theorem u8s_one (bs : List Nat) : ∀ u ∈ u8s bs, u.oneCell' = true := by
  intro u hu
  obtain ⟨n, _, rfl⟩ := List.mem_map.1 hu
  rfl
theorem info5 : (Tryd.prog.info? 5).map (fun i => (i.zero, i.size, i.bytes)) = some (some (.int .u8 0), 1, 1) := by kernel_rfl
theorem one_new (w : World) (u : Value) (E : TypeId) : ∀ (j : Nat) (x : Value), [u][j]? = some x → (w.alloc (.cells #[u] E)).cell? ((⟨w.heap.size, 0, none⟩ : Addr).add j) = some x := by
  intro j x hx
  match j, hx with
  | 0, hx => simp at hx; subst hx; simp [Addr.add]
/-- a writer at block p: it holds these bytes; all that it holds lies from block B on -/
def WriterIs (w : World) (B p : Nat) (bs : List Nat) : Prop :=
  B ≤ p ∧ ∃ v, w.heap[p]? = some (.cells #[v] 125 (0, 0)) ∧ w.ownsRow B 5 1 v bs.length (u8s bs)
theorem row_block {w : World} {B : Nat} {v : Value} {n : Nat} {xs : List Value} {p : Nat} {u : Value} {E : TypeId} (hE : E ≠ 5) (h : w.ownsRow B 5 1 v n xs) (hp : w.heap[p]? = some (.cells #[u] E (0, 0))) : v.ownBlock ≠ some p := by
  rcases h.2 with ⟨rfl, _⟩ | ⟨g, cap, cur, rfl, _, hg, _⟩
  · simp [Value.ownBlock]
  · simp only [Value.ownBlock]
    intro e
    obtain rfl := Option.some.inj e
    rw [hg] at hp
    simp only [Option.some.injEq, Obj.cells.injEq] at hp
    exact hE hp.2.1.symm
theorem WriterIs.lt {w : World} {B p : Nat} {bs : List Nat} (h : WriterIs w B p bs) : p < w.heap.size := by
  obtain ⟨_, v, h, _⟩ := h
  exact heap_lt h
/-- behind an append and the store of what it made -/
theorem writer_grown {w w1 : World} {B p : Nat} {v v' : Value} {xs ys : List Nat} (hB : B ≤ p) (hp : w.heap[p]? = some (.cells #[v] 125 (0, 0))) (hv : w.ownsRow B 5 1 v xs.length (u8s xs))
    (hown : w1.ownsRow B 5 1 v' ys.length (u8s ys)) (hg : w.grownBy w1 v.ownBlock) (hsz : B ≤ w.heap.size) :
    WriterIs (w1.setCell ⟨p, 0, none⟩ v') B p ys ∧ Below B w (w1.setCell ⟨p, 0, none⟩ v') := by
  have hne := row_block (by decide) hv hp
  have hp1 : w1.heap[p]? = some (.cells #[v] 125 (0, 0)) := (hg.block p (heap_lt hp) (fun e => hne e.symm)).trans hp
  refine ⟨⟨hB, v', one_setCell hp1, ownsRow_setCell_other hown (row_block (by decide) hown hp1) _⟩, ?_⟩
  refine below_set ((Below.refl B w).grown hg hsz (fun k hk => ?_)) hB _
  exact (hv.lt k hk).1
theorem new_writer (w : World) : Calls Tryd.prog 47 #[] w fun e w' => e = .returned (.pointer (some ⟨w.heap.size, 0, none⟩)) ∧ WriterIs w' w.heap.size w.heap.size [] ∧ Below w.heap.size w w' := by
  go_enter Tryd.func47, Tryd.ntmps47
  go_wp2
  go_ret
  exact ⟨rfl, ⟨Nat.le_refl _, _, heap_alloc_new w _, (World.ownsRow_nil _ _ _ _ : World.ownsRow _ _ _ _ _ 0 [])⟩, (Below.refl _ _).alloc (Nat.le_refl _) _⟩
set_option maxHeartbeats 400000 in
theorem writer_byte (w : World) (B p x : Nat) (bs : List Nat) (hW : WriterIs w B p bs) (hlen : bs.length + 1 ≤ 140737488355328) :
    Calls Tryd.prog 51 #[.pointer (some ⟨p, 0, none⟩), .int .u8 x] w fun e w' => e = .returned (.tuple #[]) ∧ WriterIs w' B p (bs ++ [x]) ∧ Below B w w' := by
  obtain ⟨hB, v, hp, hv⟩ := hW
  obtain ⟨i0, hi, hz0, hz1, hz2⟩ := info_parts info5
  have hlt := heap_lt hp
  have hc := cell_of_one hp
  have hcA := fun o => cell_of_one (heap_old hp o)
  have HP := hide hp
  have HL := hide hlen
  clear hp
  go_enter Tryd.func51, Tryd.ntmps51
  go_wp2_with (at_builtin; refine wpList_append_own _ rfl (.tmp 8) (.tmp 10) 46 rfl B 5 i0 (.int .u8 0) 1 1 Tryd.underlying46 hi hz0 hz1 hz2 rfl (by decide) _ _ _ rfl (hv.alloc _) ⟨w.heap.size, 0, none⟩ 1 1 [.int .u8 x] rfl rfl ?c1 ?c2 ?c3 ?c4 ?c5 ?_)
  case c1 => exact one_new _ _ _
  case c2 => intro u hu; simp at hu; subst hu; rfl
  case c3 => unfold maxLen; omega
  case c4 => omega
  case c5 => simp; omega
  intro v' w1 hown hg _
  have hW2 := writer_grown (ys := bs ++ [x]) hB (heap_old HP.out _) (hv.alloc _) (by rw [u8s_app, List.length_append]; exact hown) hg (by simp; omega)
  have hp1 := (hg.block p (by simp; omega) (fun e => row_block (by decide) hv HP.out e.symm)).trans (heap_old HP.out _)
  have hc1 := cell_of_one hp1
  have hf1 := free_of_one hp1
  obtain ⟨g, cap, rfl⟩ := Joins.ownsRow_form hown (by omega)
  have HW := hide hW2
  clear hW2 hp1 hown hg
  go_wp2
  go_end0
  exact ⟨rfl, HW.out.1, ((Below.refl B w).alloc (by omega) _).trans HW.out.2⟩
/-- a slice value that reads as these bytes -/
def Src (w : World) (v : Value) (bs : List Nat) : Prop :=
  (∀ x ∈ bs, x < 256) ∧ ((v = .slice none 0 0 ∧ bs = []) ∨ ∃ ad cap, v = .slice (some ad) bs.length cap ∧ bs.length ≤ cap ∧ cap ≤ 9223372036854775807 ∧ ∀ k x : Nat, bs[k]? = some x → w.cell? (ad.add k) = some (.int .u8 x))
theorem src_news {w : World} {ad : Addr} {bs : List Nat} (h : ∀ k x : Nat, bs[k]? = some x → w.cell? (ad.add k) = some (.int .u8 x)) :
    ∀ (j : Nat) (u : Value), (u8s bs)[j]? = some u → w.cell? (ad.add j) = some u := by
  intro j u hu
  simp only [u8s, List.getElem?_map, Option.map_eq_some_iff] at hu
  obtain ⟨x, hx, rfl⟩ := hu
  exact h j x hx
theorem src_bytes {w : World} {v : Value} {bs : List Nat} (h : Src w v bs) : ∃ ao cap, v = .slice ao bs.length cap ∧ BytesAt w ao bs := by
  rcases h with ⟨h1, ⟨rfl, rfl⟩ | ⟨ad, cap, rfl, _, _, hc⟩⟩
  · exact ⟨none, 0, rfl, h1, .inl rfl⟩
  · refine ⟨some ad, cap, rfl, h1, ?_⟩
    cases bs with
    | nil => exact .inl rfl
    | cons x bs =>
      right
      have h0 := hc 0 x rfl
      obtain ⟨b, off, sp⟩ := ad
      have hs : sp = none := by
        simp only [Addr.add, if_pos, World.cell?] at h0
        split at h0
        · split at h0
          · cases h0
          · rename_i hh; simpa using hh
        · cases h0
      subst hs
      exact ⟨b, off, rfl, fun k x hk => by rw [← Addr.add_mid]; exact hc k x hk⟩
theorem src_below {B : Nat} {w w' : World} {v : Value} {bs : List Nat} (h : Src w v bs) (hb : Below B w w') (hB : bs = [] ∨ ∀ ad, v.ownBlock = some ad → ad < B) : Src w' v bs := by
  rcases h with ⟨h1, h2 | ⟨ad, cap, rfl, hl, hm, hc⟩⟩
  · exact ⟨h1, .inl h2⟩
  · refine ⟨h1, .inr ⟨ad, cap, rfl, hl, hm, fun k x hk => ?_⟩⟩
    rcases hB with rfl | hB
    · simp at hk
    · rw [hb.cell (p := ad.add k) (by have := hB ad.block rfl; unfold Addr.add; split <;> exact this)]
      exact hc k x hk
/-- what a row that is owned reads as -/
theorem src_own {w : World} {B : Nat} {v : Value} {bs : List Nat} (h : w.ownsRow B 5 1 v bs.length (u8s bs)) (hx : ∀ x ∈ bs, x < 256) : Src w v bs := by
  refine ⟨hx, ?_⟩
  rcases Joins.ownsRow_forms h with ⟨rfl, h0⟩ | ⟨g, cap, rfl⟩
  · exact .inl ⟨rfl, List.eq_nil_of_length_eq_zero h0⟩
  · refine .inr ⟨_, cap, rfl, ?_, ?_, fun k x hk => ?_⟩
    · rcases h.2 with ⟨h0, _⟩ | ⟨g', cap', cur, hv, _, _, hl, _⟩
      · cases h0
      · simp only [Value.slice.injEq] at hv; omega
    · rcases h.2 with ⟨h0, _⟩ | ⟨g', cap', cur, hv, _, _, _, hm, _⟩
      · cases h0
      · simp only [Value.slice.injEq] at hv; unfold maxLen at hm; omega
    · exact h.cells rfl k _ (by simp [u8s, hk])
set_option maxHeartbeats 400000 in
theorem writer_raw_some (w : World) (B p : Nat) (bs ys : List Nat) (ad : Addr) (cap : Nat) (hW : WriterIs w B p bs) (hs : B ≤ w.heap.size)
    (hn : ∀ (j : Nat) (u : Value), (u8s ys)[j]? = some u → w.cell? (ad.add j) = some u) (hlen : bs.length + ys.length ≤ 140737488355328) :
    Calls Tryd.prog 52 #[.pointer (some ⟨p, 0, none⟩), .slice (some ad) ys.length cap] w fun e w' => e = .returned (.tuple #[]) ∧ WriterIs w' B p (bs ++ ys) ∧ Below B w w' := by
  obtain ⟨hB, v, hp, hv⟩ := hW
  obtain ⟨i0, hi, hz0, hz1, hz2⟩ := info_parts info5
  have hlt := heap_lt hp
  have hc := cell_of_one hp
  have HP := hide hp
  have HL := hide hlen
  clear hp
  go_enter Tryd.func52, Tryd.ntmps52
  go_wp2_with (at_builtin; refine wpList_append_own _ rfl (.tmp 8) (.tmp 9) 46 rfl B 5 i0 (.int .u8 0) 1 1 Tryd.underlying46 hi hz0 hz1 hz2 rfl (by decide) _ _ _ rfl hv ad ys.length cap (u8s ys) rfl ?c0 ?c1 ?c2 ?c3 ?c4 ?c5 ?_)
  case c0 => simp [u8s_len]
  case c1 => exact hn
  case c2 => exact u8s_one _
  case c3 => unfold maxLen; omega
  case c4 => omega
  case c5 => omega
  intro v' w1 hown hg hnil
  have hW2 := writer_grown (ys := bs ++ ys) hB HP.out hv (by rw [u8s_app, List.length_append]; exact hown) hg hs
  have hp1 := (hg.block p (by omega) (fun e => row_block (by decide) hv HP.out e.symm)).trans HP.out
  have hc1 := cell_of_one hp1
  have hf1 := free_of_one hp1
  have hform := Joins.ownsRow_forms hown
  have HW := hide hW2
  clear hW2 hp1 hown hg hnil
  rcases hform with ⟨rfl, _⟩ | ⟨g, cap, rfl⟩
  all_goals
    go_wp2
    go_end0
    exact ⟨rfl, HW.out.1, HW.out.2⟩
set_option maxHeartbeats 400000 in
theorem writer_raw_none (w : World) (B p : Nat) (bs : List Nat) (hW : WriterIs w B p bs) :
    Calls Tryd.prog 52 #[.pointer (some ⟨p, 0, none⟩), .slice none 0 0] w fun e w' => e = .returned (.tuple #[]) ∧ WriterIs w' B p bs ∧ Below B w w' := by
  obtain ⟨hB, v, hp, hv⟩ := hW
  obtain ⟨i0, hi, hz0, hz1, hz2⟩ := info_parts info5
  have hc := cell_of_one hp
  have hf := free_of_one hp
  have hform := Joins.ownsRow_forms hv
  have HP := hide hp
  clear hp
  have hfin : WriterIs (w.setCell ⟨p, 0, none⟩ v) B p bs ∧ Below B w (w.setCell ⟨p, 0, none⟩ v) := ⟨⟨hB, v, one_setCell HP.out, ownsRow_setCell_other hv (row_block (by decide) hv HP.out) _⟩, below_set (Below.refl _ _) hB _⟩
  have HF := hide hfin
  clear hfin
  rcases hform with ⟨rfl, h0⟩ | ⟨g, cap, rfl⟩
  all_goals
    go_enter Tryd.func52, Tryd.ntmps52
    go_wp2_with (at_builtin; refine wpList_append_own_none rfl (.tmp 8) (.tmp 9) 46 rfl B 5 i0 1 Tryd.underlying46 hi _ _ _ rfl hv rfl ?_)
    go_end0
    exact ⟨rfl, HF.out⟩
theorem writer_raw (w : World) (B p : Nat) (bs ys : List Nat) (v : Value) (hW : WriterIs w B p bs) (hs : B ≤ w.heap.size) (hv : Src w v ys) (hlen : bs.length + ys.length ≤ 140737488355328) :
    Calls Tryd.prog 52 #[.pointer (some ⟨p, 0, none⟩), v] w fun e w' => e = .returned (.tuple #[]) ∧ WriterIs w' B p (bs ++ ys) ∧ Below B w w' := by
  rcases hv with ⟨_, ⟨rfl, rfl⟩ | ⟨ad, cap, rfl, _, _, hc⟩⟩
  · rw [List.append_nil]
    exact writer_raw_none w B p bs hW
  · exact writer_raw_some w B p bs ys ad cap hW hs (src_news hc) hlen
theorem byte_or (x : Nat) : bits .or .u8 ((x : Int) % 256) 128 = ((x % 128 + 128 : Nat) : Int) := by
  have h := u8_or_nat (x % 256) 128 (by omega) (by omega)
  rw [Uv.or128 _ (by omega)] at h
  have e : ((x : Int) % 256) = ((x % 256 : Nat) : Int) := by simp
  rw [e]
  refine h.trans ?_
  rw [Nat.mod_mod_of_dvd _ (by decide)]
set_option maxRecDepth 100000 in
set_option maxHeartbeats 1000000 in
theorem writer_uvarint (w : World) (B p x : Nat) (bs : List Nat) (hx : x < Uv.u64) (hW : WriterIs w B p bs) (hlen : bs.length + 10 ≤ 140737488355328) :
    Calls Tryd.prog 48 #[.pointer (some ⟨p, 0, none⟩), .int .u64 x] w fun e w' => e = .returned (.tuple #[]) ∧ WriterIs w' B p (bs ++ Uv.uv x) ∧ Below B w w' := by
  obtain ⟨i0, hi, hz0, hz1, hz2⟩ := info_parts info5
  have HW0 := hide hW
  have HL := hide hlen
  clear hW
  go_enter Tryd.func48, Tryd.ntmps48
  go_wp2
  go_loopw [1] (fun c wr => ∃ (f y : Nat) (pre : List Nat), y < 128 ^ (f + 1) ∧ y < Uv.u64 ∧ c = .int .u64 y ∧ Uv.uv x = pre ++ Uv.uvf f y ∧ WriterIs wr B p (bs ++ pre) ∧ Below B w wr) (fun c _ => (intOf c).toNat)
  case atStart => exact ⟨9, x, [], Uv.start_u64 hx, hx, rfl, rfl, by simpa using HW0.out, Below.refl _ _⟩
  case round =>
    obtain ⟨f, y, pre, hy, hy64, rfl, huv, ⟨hB, v, hp, hv⟩, hb⟩ := hrel
    have hpl : pre.length ≤ 9 := by have h1 := (Uv.uv_len x).1; rw [huv] at h1; have h2 := (Uv.uvf_len f y).2; simp at h1; omega
    have hlt := heap_lt hp
    have hc := cell_of_one hp
    have HP := hide hp
    have HU := hide huv
    clear hp huv
    by_cases hge : 128 ≤ y
    · cases f with
      | zero => simp at hy; omega
      | succ f =>
        have e1 := byte_or y
        have hz : y % 128 + 128 < 256 := by omega
        obtain ⟨z, hzz⟩ : ∃ z, z = y % 128 + 128 := ⟨_, rfl⟩
        rw [← hzz] at e1 hz
        have HZ := hide hzz
        have hyd : y / 128 < 128 ^ (f + 1) := by
          rw [Nat.div_lt_iff_lt_mul (by omega)]
          rw [Nat.pow_succ] at hy
          exact hy
        have HY := hide hyd
        have HG := hide (Uv.uvf_great f y hge)
        clear hzz hy hyd
        go_wp2_with (at_builtin; refine wpList_append_own _ rfl (.tmp 10) (.tmp 14) 46 rfl B 5 i0 (.int .u8 0) 1 1 Tryd.underlying46 hi hz0 hz1 hz2 rfl (by decide) _ _ _ rfl (hv.alloc _) ⟨wr.heap.size, 0, none⟩ 1 1 [.int .u8 z] rfl rfl ?c1z ?c2z ?c3z ?c4z ?c5z ?_)
        case c1z => exact one_new _ _ _
        case c2z => intro u hu; simp at hu; subst hu; rfl
        case c3z => have := HL.out; simp [maxLen]; omega
        case c4z => have := HL.out; simp; omega
        case c5z => simp; omega
        intro v' w1 hown hg _
        have hW2 := writer_grown (ys := bs ++ pre ++ [z]) hB (heap_old HP.out _) (hv.alloc _) (by rw [u8s_app, List.length_append, List.length_append]; exact hown) hg (by simp; omega)
        have hp1 := (hg.block p (by simp; omega) (fun e => row_block (by decide) hv HP.out e.symm)).trans (heap_old HP.out _)
        have hc1 := cell_of_one hp1
        have hf1 := free_of_one hp1
        obtain ⟨g, cap, rfl⟩ := Joins.ownsRow_form hown (by omega)
        have HW := hide hW2
        clear hW2 hp1 hown hg
        go_wp2
        go_roundw
        case rel =>
          refine ⟨f, y / 128, pre ++ [z], HY.out, Uv.half_u64 _ hy64, by simp, ?_, ?_, hb.trans (((Below.refl B wr).alloc (by omega) _).trans HW.out.2)⟩
          · rw [HU.out, HG.out, HZ.out, List.append_assoc]; rfl
          · rw [← List.append_assoc]; exact HW.out.1
        case measure => simp [intOf]; omega
    · have HS := hide (Uv.uvf_small f y (by omega))
      clear hy
      go_wp2_with (at_builtin; refine wpList_append_own _ rfl (.tmp 24) (.tmp 27) 46 rfl B 5 i0 (.int .u8 0) 1 1 Tryd.underlying46 hi hz0 hz1 hz2 rfl (by decide) _ _ _ rfl (hv.alloc _) ⟨wr.heap.size, 0, none⟩ 1 1 [.int .u8 y] rfl rfl ?c1y ?c2y ?c3y ?c4y ?c5y ?_)
      case c1y => exact one_new _ _ _
      case c2y => intro u hu; simp at hu; subst hu; rfl
      case c3y => have := HL.out; simp [maxLen]; omega
      case c4y => have := HL.out; simp; omega
      case c5y => simp; omega
      intro v' w1 hown hg _
      have hW2 := writer_grown (ys := bs ++ pre ++ [y]) hB (heap_old HP.out _) (hv.alloc _) (by rw [u8s_app, List.length_append, List.length_append]; exact hown) hg (by simp; omega)
      have hp1 := (hg.block p (by simp; omega) (fun e => row_block (by decide) hv HP.out e.symm)).trans (heap_old HP.out _)
      have hc1 := cell_of_one hp1
      have hf1 := free_of_one hp1
      obtain ⟨g, cap, rfl⟩ := Joins.ownsRow_form hown (by omega)
      have HW := hide hW2
      clear hW2 hp1 hown hg
      go_wp2
      go_end0
      refine ⟨rfl, ?_, hb.trans (((Below.refl B wr).alloc (by omega) _).trans HW.out.2)⟩
      rw [HU.out, HS.out, ← List.append_assoc]
      exact HW.out.1
theorem below_drewN {B : Nat} {a w : World} (h : Below B a w) (n : Nat) : Below B a (w.drewN n) := ⟨h.os, h.tape, h.output, h.size, h.block⟩
/-- what came in reads as it did -/
theorem src_keep {w w' : World} {v : Value} {bs : List Nat} (h : Src w v bs) (hb : Below w.heap.size w w') : Src w' v bs := by
  rcases h with ⟨h1, h2 | ⟨ad, cap, rfl, hl, hm, hc⟩⟩
  · exact ⟨h1, .inl h2⟩
  · refine ⟨h1, .inr ⟨ad, cap, rfl, hl, hm, fun k x hk => ?_⟩⟩
    have h := hc k x hk
    rw [hb.cell (World.block_lt_of_cell? w _ h)]
    exact h
/-- a block of bytes that is known whole reads as its bytes -/
theorem src_block {w : World} {g : Nat} {bs : List Nat} {fr : Nat × Nat} (h : w.heap[g]? = some (.cells (u8s bs).toArray 5 fr)) (hx : ∀ x ∈ bs, x < 256) (hl : bs.length ≤ 9223372036854775807) : Src w (.slice (some ⟨g, 0, none⟩) bs.length bs.length) bs := by
  refine ⟨hx, .inr ⟨_, _, rfl, Nat.le_refl _, hl, fun k x hk => ?_⟩⟩
  rw [Addr.add_mid, Nat.zero_add, cell_at h]
  simp [u8s, hk]
/-- a package-level error -/
def ErrAt (w : World) (g : Nat) (a : Addr) : Prop := w.cell? ⟨g, 0, none⟩ = some (.iface 153 (.pointer (some a)))
theorem err_below {B : Nat} {w w' : World} {g : Nat} {a : Addr} (Z : ErrAt w g a) (h : Below B w w') (hg : g < B) : ErrAt w' g a := (h.cell (p := ⟨g, 0, none⟩) hg).trans Z
theorem size5 : (Tryd.prog.info? 5).map (·.size) = some 1 := by kernel_rfl
/-- the cells of a full row -/
theorem row_full {w : World} {B g n : Nat} {xs : List Value} (h : w.ownsRow B 5 1 (.slice (some ⟨g, 0, none⟩) n n) n xs) : w.heap[g]? = some (.cells xs.toArray 5 (0, 0)) := by
  rcases h.2 with ⟨h0, _⟩ | ⟨g', cap, cur, hv, _, hg, _, _, hs, ht⟩
  · cases h0
  · simp only [Value.slice.injEq, Option.some.injEq, Addr.mk.injEq] at hv
    obtain ⟨⟨rfl, _⟩, _, rfl⟩ := hv
    rw [hg]
    have : cur.toList = xs := by rw [← ht, List.take_of_length_le (by simp; omega)]
    rw [← this]
theorem row_of_heap {w : World} {B g : Nat} {xs : List Value} (hg : w.heap[g]? = some (.cells xs.toArray 5 (0, 0))) (hB : B ≤ g) (hl : xs.length ≤ 9223372036854775807) : w.ownsRow B 5 1 (.slice (some ⟨g, 0, none⟩) xs.length xs.length) xs.length xs :=
  ⟨by simp, .inr ⟨g, xs.length, xs.toArray, rfl, hB, hg, Nat.le_refl _, by unfold maxLen; omega, by simp, by simp⟩⟩
set_option maxRecDepth 100000 in
set_option maxHeartbeats 1000000 in
theorem concat_some (w : World) (g cap : Nat) (ao : Option Addr) (bs : List Nat) (hc : w.cell? ⟨g, 0, none⟩ = some (.slice ao bs.length cap)) (hn : bs.length ≤ 140737488355328)
    (hs : 0 < bs.length → ∃ ad, ao = some ad ∧ ∀ (j : Nat) (u : Value), (u8s bs)[j]? = some u → w.cell? (ad.add j) = some u) :
    Calls Tryd.prog 75 #[.slice (some ⟨g, 0, none⟩) 1 1] w fun e w' => e = .returned (.slice (some ⟨w.heap.size, 0, none⟩) bs.length bs.length) ∧ w'.heap[w.heap.size]? = some (.cells (u8s bs).toArray 5 (0, 0)) ∧ Below w.heap.size w w' := by
  obtain ⟨i0, hi, hz0, hz1, hz2⟩ := info_parts info5
  go_enter Tryd.func75, Tryd.ntmps75
  go_wp2
  refine wp_loop_rounds 2 ?_
  rw [rounds_succ]
  go_wp2
  rw [rounds_succ]
  go_wp2_with (at_make; refine wpList_make_full _ rfl (.tmp 21) (.tmp 21) 46 rfl w.heap.size 5 i0 (.int .u8 0) 1 Tryd.underlying46 hi hz0 hz1 _ _ _ _ bs.length rfl rfl rfl rfl ?_ ?_ (Nat.le_refl _) ?_)
  case refine_1 => rw [hz2]; omega
  case refine_2 => unfold maxLen; omega
  intro w1 hown hg
  have hcell1 := (hg.cell hc (by simp))
  have hB := (Below.refl w.heap.size w).grown hg (Nat.le_refl _) (fun k hk => by cases hk)
  have hrow := row_full hown
  have hml : (madeCells #[Value.int IntKind.u8 0] bs.length).toList.length = bs.length := by simp [madeCells]
  have hsrc : 0 < bs.length → ∃ ad, ao = some ad ∧ ∀ (j : Nat) (u : Value), (u8s bs)[j]? = some u → w1.cell? (ad.add j) = some u := fun h0 => by
    obtain ⟨ad, h1, h2⟩ := hs h0
    exact ⟨ad, h1, fun j u hu => hg.cell (h2 j u hu) (by simp)⟩
  generalize (madeCells #[Value.int IntKind.u8 0] bs.length).toList = Z at hrow hml
  have HR := hide hrow
  have HS := hide hsrc
  have HB := hide hB
  clear hown hg hrow hs hsrc hc hB
  have hsp : splice Z 0 (u8s bs) = u8s bs := by
    unfold splice
    rw [List.take_zero, List.nil_append, List.drop_eq_nil_of_le (by rw [u8s_len]; omega), List.append_nil]
  have HSP := hide hsp
  have HML := hide hml
  have hul := u8s_len bs
  have HUL := hide hul
  clear hsp hml hul
  by_cases h0 : bs.length = 0
  · have hn0 : bs = [] := List.eq_nil_of_length_eq_zero h0
    clear h0
    subst hn0
    go_wp2
    refine wp_loop_rounds 2 ?_
    rw [rounds_succ]
    go_wp2_with (refine wpList_copy_splice rfl (.tmp 32) (.tmp 33) 46 46 rfl 5 Tryd.underlying46 size5 (some ⟨w.heap.size, 0, none⟩) ao 0 0 0 cap rfl rfl w.heap.size 0 Z 5 HR.out (u8s []) ?_ ?_ ?_ ?_ w.heap.size w HB.out (Nat.le_refl _) ?_)
    case refine_1 => rfl
    case refine_2 => exact fun h => absurd h (by decide)
    case refine_3 => simp [u8s]
    case refine_4 => exact u8s_one _
    intro w2 hR2 hB2
    have HB2 := hide hB2
    clear hB2
    go_wp2
    rw [rounds_succ]
    go_wp2
    go_ret
    refine ⟨rfl, ?_, HB2.out⟩
    have := hR2.out
    rw [HSP.out] at this
    exact this
  · have hpos : 0 < bs.length := by omega
    go_wp2
    refine wp_loop_rounds 2 ?_
    rw [rounds_succ]
    go_wp2_with (refine wpList_copy_splice rfl (.tmp 32) (.tmp 33) 46 46 rfl 5 Tryd.underlying46 size5 (some ⟨w.heap.size, 0, none⟩) ao bs.length bs.length bs.length cap rfl rfl w.heap.size 0 Z 5 HR.out (u8s bs) ?_ ?_ ?_ ?_ w.heap.size w HB.out (Nat.le_refl _) ?_)
    case refine_1 => rw [HUL.out]; simp
    case refine_2 =>
      intro _
      obtain ⟨ad, h1, h2⟩ := HS.out hpos
      exact ⟨ad, h1, h2⟩
    case refine_3 => have h1 := HML.out; have h2 := HUL.out; omega
    case refine_4 => exact u8s_one _
    intro w2 hR2 hB2
    have HB2 := hide hB2
    have hul := HUL.out
    clear hB2
    go_wp2
    rw [rounds_succ]
    go_wp2
    go_ret
    refine ⟨rfl, ?_, HB2.out⟩
    have := hR2.out
    rw [HSP.out] at this
    exact this
theorem concat_any (w : World) (g : Nat) (v : Value) (bs : List Nat) (hc : w.cell? ⟨g, 0, none⟩ = some v) (hs : Src w v bs) (hn : bs.length ≤ 140737488355328) :
    Calls Tryd.prog 75 #[.slice (some ⟨g, 0, none⟩) 1 1] w fun e w' => e = .returned (.slice (some ⟨w.heap.size, 0, none⟩) bs.length bs.length) ∧ w'.heap[w.heap.size]? = some (.cells (u8s bs).toArray 5 (0, 0)) ∧ Below w.heap.size w w' := by
  rcases hs with ⟨_, ⟨rfl, rfl⟩ | ⟨ad, cap, rfl, _, _, hs⟩⟩
  · exact concat_some w g 0 none [] hc hn (fun h => absurd h (by decide))
  · exact concat_some w g cap (some ad) bs hc hn (fun _ => ⟨ad, rfl, src_news hs⟩)
set_option maxHeartbeats 400000 in
theorem writer_bytes (w : World) (B p : Nat) (bs : List Nat) (hW : WriterIs w B p bs) (hx : ∀ x ∈ bs, x < 256) (hn : bs.length ≤ 140737488355328) :
    Calls Tryd.prog 54 #[.pointer (some ⟨p, 0, none⟩)] w fun e w' => e = .returned (.slice (some ⟨w.heap.size + 1, 0, none⟩) bs.length bs.length) ∧ w'.heap[w.heap.size + 1]? = some (.cells (u8s bs).toArray 5 (0, 0)) ∧ Below w.heap.size w w' := by
  obtain ⟨hB, v, hp, hv⟩ := hW
  have hc := cell_of_one hp
  have HS := hide (src_own (hv.alloc (.cells #[v] 46)) hx)
  have hz : (w.alloc (.cells #[v] 46)).cell? ⟨w.heap.size, 0, none⟩ = some v := by rw [World.cell?_alloc_new]; rfl
  have HZ := hide hz
  have hform := Joins.ownsRow_forms hv
  clear hp hz hB hv
  rcases hform with ⟨rfl, h0⟩ | ⟨g, cap, rfl⟩
  · have h1 := List.eq_nil_of_length_eq_zero h0
    clear h0
    subst h1
    go_enter Tryd.func54, Tryd.ntmps54
    go_wp2_with (go_at_call 75; refine (concat_any _ _ _ [] HZ.out HS.out hn).mono ?_; rintro e w1 ⟨rfl, hh, hb⟩)
    go_ret
    rw [World.size_alloc] at *
    exact ⟨rfl, hh, ((Below.refl _ w).alloc (Nat.le_refl _) _).trans (hb.mono (by omega))⟩
  · go_enter Tryd.func54, Tryd.ntmps54
    go_wp2_with (go_at_call 75; refine (concat_any _ _ _ bs HZ.out HS.out hn).mono ?_; rintro e w1 ⟨rfl, hh, hb⟩)
    go_ret
    rw [World.size_alloc] at *
    exact ⟨rfl, hh, ((Below.refl _ w).alloc (Nat.le_refl _) _).trans (hb.mono (by omega))⟩
/-- an own row of bytes at or above B -/
def Own (w : World) (B : Nat) (v : Value) (bs : List Nat) : Prop := w.ownsRow B 5 1 v bs.length (u8s bs)
set_option maxRecDepth 100000 in
theorem append_src {ops : Array Oper} {rest : List Oper} {o : Oper} {a : Act} {Q : Exit → Act → World → Prop} (w0 w : World) (B : Nat) (v xv : Value) (cur bs : List Nat) (hgd : o.guard = none) (s x : Operand)
    (ho : o.op = .call { callee := .builtin .append, args := #[s, x], argTypes := #[46, 46] }) (hs : a.eval s = v) (hx : a.eval x = xv)
    (hown : Own w B v cur) (hsrc : Src w xv bs) (hl : cur.length + bs.length ≤ 140737488355328) (hB : B ≤ w.heap.size) (hb : Below B w0 w)
    (h : ∀ v' w', Own w' B v' (cur ++ bs) → Below B w0 w' → wpList Tryd.prog ops Q rest (a.put o.dst v') w') :
    wpList Tryd.prog ops Q (o :: rest) a w := by
  obtain ⟨i0, hi, hz0, hz1, hz2⟩ := info_parts info5
  rcases hsrc with ⟨_, ⟨rfl, rfl⟩ | ⟨ad, cap, rfl, _, _, hc⟩⟩
  · refine wpList_append_own_none hgd s x 46 ho B 5 i0 1 Tryd.underlying46 hi v cur.length (u8s cur) hs hown hx (h v w ?_ hb)
    rw [List.append_nil]
    exact hown
  · refine wpList_append_own w hgd s x 46 ho B 5 i0 (.int .u8 0) 1 1 Tryd.underlying46 hi hz0 hz1 hz2 rfl (by decide) v cur.length (u8s cur) hs hown ad bs.length cap (u8s bs) hx (by simp [u8s_len]) (src_news hc) (u8s_one _) (by simp only [maxLen]; omega) (by omega) hB ?_
    intro v' w' hown' hg _
    refine h v' w' ?_ (hb.grown hg hB (fun k hk => (World.ownsRow.lt hown k hk).1))
    unfold Own
    rw [u8s_app, List.length_append]
    exact hown'
theorem own_src {w : World} {B : Nat} {v : Value} {bs : List Nat} (h : Own w B v bs) (hx : ∀ x ∈ bs, x < 256) : Src w v bs := src_own h hx
theorem own_lit (w : World) (B : Nat) (bs : List Nat) (hB : B ≤ w.heap.size) (hl : bs.length ≤ 9223372036854775807) (cs : Array Value) (hcs : cs = (u8s bs).toArray) :
    Own (w.alloc (.cells cs 5)) B (.slice (some ⟨w.heap.size, 0, none⟩) bs.length bs.length) bs := by
  subst hcs
  have h := World.ownsRow_lit (base := B) (e := 5) (size := 1) w (u8s bs).toArray bs.length hB (by simp only [maxLen]; omega) (by simp [u8s_len])
  simpa [Own] using h
theorem own_keep {w w' : World} {B : Nat} {v : Value} {bs : List Nat} (h : Own w B v bs) (hb : Below w.heap.size w w') : Own w' B v bs :=
  World.ownsRow.kept (row := none) h ⟨hb.os, hb.tape, hb.output, hb.size, fun k hk _ => hb.block k hk⟩ (by cases hv : v.ownBlock <;> simp)
theorem own_form {w : World} {B : Nat} {v : Value} {bs : List Nat} (h : Own w B v bs) (hl : 0 < bs.length) : ∃ g cap, v = .slice (some ⟨g, 0, none⟩) bs.length cap := Joins.ownsRow_form h hl
/-- the shape of a byte slice's value -/
theorem src_form {w : World} {v : Value} {bs : List Nat} (h : Src w v bs) : ∃ ao cap, v = .slice ao bs.length cap := by
  obtain ⟨ao, cap, h, _⟩ := src_bytes h
  exact ⟨ao, cap, h⟩
/-- a part of a source -/
theorem src_part {w : World} {ad : Addr} {n cap : Nat} {bs : List Nat} (h : Src w (.slice (some ad) n cap) bs) (i j c : Nat) (hij : i ≤ j) (hj : j ≤ bs.length) (hc : j - i ≤ c) (hc2 : c ≤ 9223372036854775807) :
    Src w (.slice (some (ad.add i)) (j - i) c) ((bs.take j).drop i) := by
  have hl : ((bs.take j).drop i).length = j - i := by rw [List.length_drop, List.length_take]; omega
  refine ⟨fun x hx => h.1 x (List.mem_of_mem_take (List.mem_of_mem_drop hx)), .inr ⟨ad.add i, c, by rw [hl], by omega, hc2, fun k x hk => ?_⟩⟩
  rcases h with ⟨_, ⟨h1, _⟩ | ⟨ad', c', h1, _, _, hcell⟩⟩
  · simp at h1
  · simp only [Value.slice.injEq, Option.some.injEq] at h1
    obtain ⟨rfl, _, _⟩ := h1
    rw [Addr.add_add]
    refine hcell (i + k) x ?_
    rw [List.getElem?_drop, List.getElem?_take] at hk
    split at hk
    · exact hk
    · simp at hk
/-- the listed errors: each is a pointer to a block of its own -/
structure Errs (w : World) (E : Nat → Addr) (ids : List Nat) : Prop where
  cell : ∀ g ∈ ids, ErrAt w g (E g)
  blk : ∀ g ∈ ids, ∃ c t, w.heap[(E g).block]? = some (.cells c t (0, 0))
  inj : ∀ g ∈ ids, ∀ h ∈ ids, g ≠ h → E g ≠ E h
theorem Errs.below {B : Nat} {w w' : World} {E : Nat → Addr} {ids : List Nat} (h : Errs w E ids) (hb : Below B w w') (hB : w.heap.size ≤ B) (hg : ∀ g ∈ ids, g < B) : Errs w' E ids := by
  refine ⟨fun g hg' => err_below (h.cell g hg') hb (hg g hg'), fun g hg' => ?_, h.inj⟩
  obtain ⟨c, t, hc⟩ := h.blk g hg'
  exact ⟨c, t, (hb.block _ (Nat.lt_of_lt_of_le (heap_lt hc) hB)).trans hc⟩
theorem Errs.mono {w : World} {E : Nat → Addr} {ids js : List Nat} (h : Errs w E ids) (hs : ∀ g ∈ js, g ∈ ids) : Errs w E js :=
  ⟨fun g hg => h.cell g (hs g hg), fun g hg => h.blk g (hs g hg), fun g hg k hk => h.inj g (hs g hg) k (hs k hk)⟩
theorem comp153 : (Tryd.prog.info? 153).map (·.comparable) = some true := by kernel_rfl
theorem size170 : (Tryd.prog.info? 170).map (·.size) = some 1 := by kernel_rfl
theorem err_same (w : World) (a : Addr) : (binOp .eql 26 (.iface 153 (.pointer (some a))) (.iface 153 (.pointer (some a)))).run Tryd.prog w = .ok (.bool true) w := by
  have h1 := comp153
  have h2 := size170
  cases hi : Tryd.prog.info? 153 with
  | none => rw [hi] at h1; cases h1
  | some i =>
    cases hj : Tryd.prog.info? 170 with
    | none => rw [hj] at h2; cases h2
    | some j =>
      rw [hi] at h1
      exact run_eql_iface_ptr_same w a Tryd.underlying26 Tryd.underlying153 hi (by simpa using h1) hj
theorem err_other (w : World) {a b : Addr} {ca cb : Array Value} {ta tb : TypeId} (hne : a ≠ b) (ha : w.heap[a.block]? = some (.cells ca ta (0, 0))) (hb : w.heap[b.block]? = some (.cells cb tb (0, 0))) :
    (binOp .eql 26 (.iface 153 (.pointer (some a))) (.iface 153 (.pointer (some b)))).run Tryd.prog w = .ok (.bool false) w := by
  have h1 := comp153
  have h2 := size170
  cases hi : Tryd.prog.info? 153 with
  | none => rw [hi] at h1; cases h1
  | some i =>
    cases hj : Tryd.prog.info? 170 with
    | none => rw [hj] at h2; cases h2
    | some j =>
      rw [hi] at h1
      rw [hj] at h2
      exact run_eql_iface_ptr_other w Tryd.underlying26 Tryd.underlying153 hi (by simpa using h1) hj (by simp at h2; omega) hne ha hb
theorem Errs.eq_other {w : World} {E : Nat → Addr} {ids : List Nat} (h : Errs w E ids) (g k : Nat) (hg : g ∈ ids) (hk : k ∈ ids) (hne : g ≠ k) :
    (binOp .eql 26 (.iface 153 (.pointer (some (E g)))) (.iface 153 (.pointer (some (E k))))).run Tryd.prog w = .ok (.bool false) w := by
  obtain ⟨ca, ta, ha⟩ := h.blk g hg
  obtain ⟨cb, tb, hb⟩ := h.blk k hk
  exact err_other w (h.inj g hg k hk hne) ha hb
theorem num_nil (w : World) : Calls Tryd.prog 31 #[.nilIface] w fun e w' => e = .returned (.int .i64 0) ∧ w = w' := by
  go_enter Tryd.func31, Tryd.ntmps31
  go_wp2
  go_ret
  exact ⟨rfl, rfl⟩
def RdAt (w : World) (p at_ : Nat) (bv : Value) (n : Nat) : Prop := w.heap[p]? = some (.cells #[.int .i64 at_, .int .i64 n, bv] 109 (0, 0))
theorem cells3 {w : World} {p : Nat} {a b c : Value} {t : TypeId} {fr : Nat × Nat} (h : w.heap[p]? = some (.cells #[a, b, c] t fr)) :
    w.cell? ⟨p, 0, none⟩ = some a ∧ w.cell? ⟨p, 1, none⟩ = some b ∧ w.cell? ⟨p, 2, none⟩ = some c := by
  refine ⟨?_, ?_, ?_⟩
  · rw [cell_at h]; rfl
  · rw [cell_at h]; rfl
  · rw [cell_at h]; rfl
theorem left_any (w : World) (p a n : Nat) (bv : Value) (h : RdAt w p a bv n) (hn : a ≤ n) (hn2 : n ≤ 9223372036854775807) :
    Calls Tryd.prog 64 #[.pointer (some ⟨p, 0, none⟩)] w fun e w' => e = .returned (.int .i64 ((n : Int) - a)) ∧ ∃ q, w' = w.drewN q := by
  obtain ⟨h0, h1, h2⟩ := cells3 h
  clear h
  have hw : IntKind.i64.wrap ((n : Int) - a) = (n : Int) - a := by rw [IntKind.wrap_i64]; omega
  go_enter Tryd.func64, Tryd.ntmps64
  go_wp2
  go_quiet (fail)
  go_wp2
  go_ret
  exact ⟨rfl, _, rfl⟩
set_option maxRecDepth 100000 in
theorem new_reader (w : World) (v : Value) (bs : List Nat) (hs : Src w v bs) (hn : bs.length ≤ 140737488355328) :
    Calls Tryd.prog 62 #[v] w fun e w' => ∃ p bv, e = .returned (.pointer (some ⟨p, 0, none⟩)) ∧ w.heap.size ≤ p ∧ RdAt w' p 0 bv bs.length ∧ Src w' bv bs ∧ Below w.heap.size w w' := by
  obtain ⟨ao, cap, rfl⟩ := src_form hs
  have HS := hide hs
  clear hs
  go_enter Tryd.func62, Tryd.ntmps62
  go_wp2_with fail
  have HBA := hide ((Below.refl w.heap.size w).alloc (Nat.le_refl _) (.cells #[.slice ao bs.length cap] 46))
  refine (concat_any _ w.heap.size (.slice ao bs.length cap) bs (by rw [World.cell?_alloc_new]; rfl) (src_keep HS.out HBA.out) hn).mono ?_
  rintro e w1 ⟨rfl, hh, hb⟩
  have HB1 := hide (HBA.out.trans (hb.mono HBA.out.size))
  rw [World.size_alloc] at hh
  have HS1 := hide (src_block hh HS.out.1 (by omega))
  clear hh hb
  go_wp2
  go_ret
  exact ⟨w1.heap.size, _, rfl, HB1.out.size, heap_new rfl _, src_keep HS1.out ((Below.refl _ _).alloc (Nat.le_refl _) _), HB1.out.alloc HB1.out.size _⟩
theorem grown_of_below {A C : World} (h : Below A.heap.size A C) : A.grownBy C none := ⟨h.os, h.tape, h.output, h.size, fun k hk _ => h.block k hk⟩
/-- the block that turns is no block of cells of type e -/
def NotTy (w : World) (row : Option Nat) (e : TypeId) : Prop := ∀ r, row = some r → ∀ cs fr, w.heap[r]? ≠ some (.cells cs e fr)
theorem notTy_none (w : World) (e : TypeId) : NotTy w none e := fun _ h => by cases h
theorem notTy_row {w : World} {B e s n : Nat} {v : Value} {xs : List Value} (h : w.ownsRow B e s v n xs) {t : TypeId} (hne : e ≠ t) : NotTy w v.ownBlock t := by
  intro r hr cs fr hc
  rcases h.2 with ⟨rfl, _⟩ | ⟨g, cap, cur, rfl, _, hh, _⟩
  · simp [Value.ownBlock] at hr
  · simp only [Value.ownBlock, Option.some.injEq] at hr
    subst hr
    rw [hh] at hc
    simp only [Option.some.injEq, Obj.cells.injEq] at hc
    exact hne hc.2.1
theorem row_kept {w w' : World} {B e s n : Nat} {v : Value} {xs : List Value} {row : Option Nat} (h : w.ownsRow B e s v n xs) (hg : w.grownBy w' row) (ht : NotTy w row e) : w'.ownsRow B e s v n xs := by
  refine World.ownsRow.kept h hg ?_
  rcases h.2 with ⟨rfl, _⟩ | ⟨g, cap, cur, rfl, _, hh, _⟩
  · exact .inl rfl
  · exact .inr (fun e' => ht g (by simpa [Value.ownBlock] using e'.symm) _ _ hh)
theorem row_shape {w : World} {B e s n : Nat} {v : Value} {xs : List Value} (h : w.ownsRow B e s v n xs) : ∃ ao cap, v = .slice ao n cap := by
  rcases h.2 with ⟨rfl, rfl⟩ | ⟨g, cap, cur, rfl, _⟩
  · exact ⟨none, 0, rfl⟩
  · exact ⟨_, cap, rfl⟩
theorem row_mono {w : World} {B B' e s n : Nat} {v : Value} {xs : List Value} (h : w.ownsRow B e s v n xs) (hB : B' ≤ B) : w.ownsRow B' e s v n xs := by
  refine ⟨h.1, ?_⟩
  rcases h.2 with h | ⟨g, cap, cur, rfl, hb, hh, hn⟩
  · exact .inl h
  · exact .inr ⟨g, cap, cur, rfl, by omega, hh, hn⟩
/-- all blocks of cells of type t lie as they lay -/
def KeepTy (W W' : World) (t : TypeId) : Prop := ∀ (k : Nat) (cs : Array Value) (fr : Nat × Nat), W.heap[k]? = some (.cells cs t fr) → W'.heap[k]? = some (.cells cs t fr)
theorem KeepTy.trans {A B C : World} {t : TypeId} (h : KeepTy A B t) (k : KeepTy B C t) : KeepTy A C t := fun i cs fr hi => k i cs fr (h i cs fr hi)
theorem keepTy_grown {W W' : World} {row : Option Nat} {t : TypeId} (hg : W.grownBy W' row) (hn : NotTy W row t) : KeepTy W W' t := fun k _ _ hk =>
  (hg.block k (heap_lt hk) (fun e => hn k e.symm _ _ hk)).trans hk
theorem keepTy_below {W W' : World} (hb : Below W.heap.size W W') (t : TypeId) : KeepTy W W' t := keepTy_grown (grown_of_below hb) (notTy_none _ _)
theorem row_keepTy {w w' : World} {B e s n : Nat} {v : Value} {xs : List Value} (h : w.ownsRow B e s v n xs) (hk : KeepTy w w' e) : w'.ownsRow B e s v n xs := by
  refine ⟨h.1, ?_⟩
  rcases h.2 with h | ⟨g, cap, cur, rfl, hb, hh, hn⟩
  · exact .inl h
  · exact .inr ⟨g, cap, cur, rfl, hb, hk _ _ _ hh, hn⟩
/-- all but the rows' blocks is as it was -/
structure Foot (w w' : World) (S : Nat → Prop) : Prop where
  os : w'.os = w.os
  tape : w'.tape = w.tape
  output : w'.output = w.output
  size : w.heap.size ≤ w'.heap.size
  block : ∀ k, k < w.heap.size → ¬ S k → w'.heap[k]? = w.heap[k]?
theorem Foot.refl (w : World) (S : Nat → Prop) : Foot w w S := ⟨rfl, rfl, rfl, Nat.le_refl _, fun _ _ _ => rfl⟩
theorem Foot.drewN {w w' : World} {S : Nat → Prop} (h : Foot w w' S) (n : Nat) : Foot w (w'.drewN n) S := ⟨h.os, h.tape, h.output, h.size, h.block⟩
theorem Foot.drew {w w' : World} {S : Nat → Prop} (h : Foot w w' S) : Foot w w'.drew S := ⟨h.os, h.tape, h.output, h.size, h.block⟩
theorem Foot.below {w w' : World} {S : Nat → Prop} {B : Nat} (h : Foot w w' S) (hS : ∀ g, S g → B ≤ g) (hB : B ≤ w.heap.size) : Below B w w' :=
  ⟨h.os, h.tape, h.output, h.size, fun k hk => h.block k (by omega) (fun hs => by have := hS k hs; omega)⟩
theorem Foot.setCell {w w' : World} {S : Nat → Prop} (h : Foot w w' S) (a : Addr) (x : Value) (ha : S a.block ∨ w.heap.size ≤ a.block) : Foot w (w'.setCell a x) S :=
  ⟨h.os, h.tape, h.output, by rw [World.size_setCell]; exact h.size, fun k hk hs => by
    rw [Below.heap_setCell w' a x k (fun e => by subst e; rcases ha with h | h; exact hs h; omega)]
    exact h.block k hk hs⟩
theorem Foot.grown {w w' w2 : World} {S : Nat → Prop} (h : Foot w w' S) {r : Option Nat} (hg : w'.grownBy w2 r) (hr : ∀ g, r = some g → S g ∨ w.heap.size ≤ g) : Foot w w2 S :=
  ⟨hg.os.trans h.os, hg.tape.trans h.tape, hg.output.trans h.output, Nat.le_trans h.size hg.size, fun k hk hs => by
    rw [hg.block k (Nat.lt_of_lt_of_le hk h.size) (fun e => by rcases hr k e.symm with h | h; exact hs h; omega)]
    exact h.block k hk hs⟩
theorem Foot.keep {w w' w2 : World} {S : Nat → Prop} (h : Foot w w' S) (hb : Below w'.heap.size w' w2) : Foot w w2 S :=
  h.grown (r := none) ⟨hb.os, hb.tape, hb.output, hb.size, fun k hk _ => hb.block k hk⟩ (fun _ e => by cases e)
end Go.Proofs.YtmkbbekeimnajaaDoor
