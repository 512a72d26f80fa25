/- texts of this proof, one behind the other: Sf WReads To -/
import Derived.Test.YtmkbbekeimnajaaDoorMMemory0
import Derived.Test.YtmkbbekeimnajaaDoorMMemory1
import Derived.Test.YtmkbbekeimnajaaDoorMMemory2
import Derived.Test.YtmkbbekeimnajaaDoorMMemory3
import Derived.Test.YtmkbbekeimnajaaDoorMMemory4
import Derived.Test.YtmkbbekeimnajaaDoorMMemory5
import Derived.Test.YtmkbbekeimnajaaDoorMMemory6
import Derived.Test.YtmkbbekeimnajaaDoorMMemory7
import Derived.Test.YtmkbbekeimnajaaDoorMMemory8
import Derived.Test.YtmkbbekeimnajaaDoorMMemory9
import Derived.Test.YtmkbbekeimnajaaDoorMMemory10
import Derived.Test.YtmkbbekeimnajaaDoorMMemory11
import Derived.Test.YtmkbbekeimnajaaDoorMMemory12
import Derived.Test.YtmkbbekeimnajaaDoorMMemory13
import Derived.Deep.RegionLaw
/-! Sf: families of sets, each in blocks of its own; rows of pointers to them; rows of their forms -/
namespace Go.Proofs.YtmkbbekeimnajaaDoor
open Go.RowKit Ds
theorem SetAt.same {w w' : World} {S g cap n : Nat} {m : Nat → Bool} (h : SetAt w S g cap n m) (h1 : w'.heap[S]? = w.heap[S]?) (h2 : w'.heap[g]? = w.heap[g]?) : SetAt w' S g cap n m := by
  obtain ⟨cur, k1, k2, k3⟩ := h.ws
  exact ⟨h1.trans h.hd, ⟨cur, h2.trans k1, k2, k3⟩, h.cap, h.off, h.small⟩
theorem SetAt.lt {w : World} {S g cap n : Nat} {m : Nat → Bool} (h : SetAt w S g cap n m) : S < w.heap.size ∧ g < w.heap.size := by
  obtain ⟨cur, k1, _⟩ := h.ws
  exact ⟨heap_lt h.hd, heap_lt k1⟩
theorem SetAt.ne2 {w : World} {S g cap n S' g' cap' n' : Nat} {m m' : Nat → Bool} (h : SetAt w S g cap n m) (k : SetAt w S' g' cap' n' m') : S ≠ g' := by
  rintro rfl
  obtain ⟨cur, k1, _⟩ := k.ws
  rw [h.hd] at k1
  simp at k1
/-- what is done to a set leaves blocks of other types -/
theorem keepTy_set {w w' : World} {S g cap n : Nat} {m : Nat → Bool} (h : SetAt w S g cap n m) (hf : Foot w w' (fun k => k = S ∨ k = g)) (t : TypeId) (h1 : t ≠ 82) (h2 : t ≠ 83) : KeepTy w w' t := by
  intro k cs fr hk
  refine (hf.block k (heap_lt hk) ?_).trans hk
  rintro (rfl | rfl)
  · rw [h.hd] at hk
    simp only [Option.some.injEq, Obj.cells.injEq] at hk
    exact h1 hk.2.1.symm
  · obtain ⟨cur, k1, _⟩ := h.ws
    rw [k1] at hk
    simp only [Option.some.injEq, Obj.cells.injEq] at hk
    exact h2 hk.2.1.symm
theorem SetAt.foot {w w' : World} {S g cap n S' g' cap' n' : Nat} {m m' : Nat → Bool} (h : SetAt w S g cap n m) (k : SetAt w S' g' cap' n' m') (hf : Foot w w' (fun k => k = S' ∨ k = g')) (h1 : S ≠ S') (h2 : g ≠ g') : SetAt w' S g cap n m := by
  refine h.same (hf.block _ h.lt.1 ?_) (hf.block _ h.lt.2 ?_)
  · rintro (e | e)
    · exact h1 e
    · exact h.ne2 k e
  · rintro (e | e)
    · exact k.ne2 h e.symm
    · exact h2 e
structure SRec where
  S : Nat
  g : Nat
  cap : Nat
  m : Nat → Bool
structure SFam (w : World) (n N : Nat) (R : Nat → SRec) : Prop where
  at_ : ∀ i, i < N → SetAt w (R i).S (R i).g (R i).cap n (R i).m
  ap : ∀ i j, i < N → j < N → i ≠ j → (R i).S ≠ (R j).S ∧ (R i).g ≠ (R j).g
theorem SFam.keep {w w' : World} {n N : Nat} {R : Nat → SRec} (h : SFam w n N R) (hb : Below w.heap.size w w') : SFam w' n N R := ⟨fun i hi => (h.at_ i hi).keep hb, h.ap⟩
def snocR (R : Nat → SRec) (N : Nat) (r : SRec) : Nat → SRec := fun i => if i = N then r else R i
theorem SFam.snoc {w w' : World} {n N : Nat} {R : Nat → SRec} (h : SFam w n N R) (hb : Below w.heap.size w w') {S g cap : Nat} {m : Nat → Bool} (hS : w.heap.size ≤ S) (hg : w.heap.size ≤ g) (hs : SetAt w' S g cap n m) : SFam w' n (N + 1) (snocR R N ⟨S, g, cap, m⟩) := by
  refine ⟨fun i hi => ?_, fun i j hi hj hij => ?_⟩
  · unfold snocR
    by_cases e : i = N
    · rw [if_pos e]; exact hs
    · rw [if_neg e]; exact (h.at_ i (by omega)).keep hb
  · unfold snocR
    by_cases e : i = N
    · rw [if_pos e, if_neg (by omega)]
      have := (h.at_ j (by omega)).lt
      constructor
      · dsimp only; omega
      · dsimp only; omega
    · rw [if_neg e]
      by_cases e2 : j = N
      · rw [if_pos e2]
        have := (h.at_ i (by omega)).lt
        constructor
        · dsimp only; omega
        · dsimp only; omega
      · rw [if_neg e2]; exact h.ap i j (by omega) (by omega) hij
def setW (R : Nat → SRec) (i : Nat) (m : Nat → Bool) : Nat → SRec := fun j => if j = i then ⟨(R j).S, (R j).g, (R j).cap, m⟩ else R j
theorem setW_S (R : Nat → SRec) (i : Nat) (m : Nat → Bool) (j : Nat) : (setW R i m j).S = (R j).S ∧ (setW R i m j).g = (R j).g ∧ (setW R i m j).cap = (R j).cap := by
  unfold setW
  split
  · exact ⟨rfl, rfl, rfl⟩
  · exact ⟨rfl, rfl, rfl⟩
theorem setW_m (R : Nat → SRec) (i : Nat) (m : Nat → Bool) {j : Nat} (h : j ≠ i) : setW R i m j = R j := if_neg h
theorem setW_at (R : Nat → SRec) (i : Nat) (m : Nat → Bool) : (setW R i m i).m = m := by unfold setW; rw [if_pos rfl]
theorem SFam.set {w w' : World} {n N : Nat} {R : Nat → SRec} (h : SFam w n N R) {i : Nat} (hi : i < N) {m : Nat → Bool} (hs : SetAt w' (R i).S (R i).g (R i).cap n m) (hf : Foot w w' (fun k => k = (R i).S ∨ k = (R i).g)) : SFam w' n N (setW R i m) := by
  refine ⟨fun j hj => ?_, fun j k hj hk hjk => ?_⟩
  · by_cases e : j = i
    · subst e
      rw [setW_at, (setW_S R j m j).1, (setW_S R j m j).2.1, (setW_S R j m j).2.2]
      exact hs
    · rw [setW_m R i m e]
      have := h.ap j i hj hi e
      exact (h.at_ j hj).foot (h.at_ i hi) hf this.1 this.2
  · rw [(setW_S R i m j).1, (setW_S R i m k).1, (setW_S R i m j).2.1, (setW_S R i m k).2.1]
    exact h.ap j k hj hk hjk
/-- pointers to the sets a .. a + k - 1 -/
def ptrs (R : Nat → SRec) (a k : Nat) : List Value := (List.range k).map fun i => .pointer (some ⟨(R (a + i)).S, 0, none⟩)
theorem ptrs_len (R : Nat → SRec) (a k : Nat) : (ptrs R a k).length = k := by simp [ptrs]
theorem ptrs_get (R : Nat → SRec) (a : Nat) {k i : Nat} (h : i < k) : (ptrs R a k)[i]? = some (.pointer (some ⟨(R (a + i)).S, 0, none⟩)) := by simp [ptrs, h]
theorem ptrs_congr {R R' : Nat → SRec} {a k : Nat} (h : ∀ i, i < k → (R (a + i)).S = (R' (a + i)).S) : ptrs R a k = ptrs R' a k := List.map_congr_left fun i hi => by rw [h i (List.mem_range.1 hi)]
theorem ptrs_succ (R : Nat → SRec) (a k : Nat) : ptrs R a (k + 1) = ptrs R a k ++ [.pointer (some ⟨(R (a + k)).S, 0, none⟩)] := by simp [ptrs, List.range_succ]
theorem ptrs_one (R : Nat → SRec) (a k : Nat) : ∀ u ∈ ptrs R a k, u.oneCell' = true := by
  intro u hu
  obtain ⟨i, _, rfl⟩ := List.mem_map.1 hu
  rfl
theorem info24 : (Tryd.prog.info? 24).map (fun i => (i.zero, i.size, i.bytes)) = some (some (.pointer none), 1, 8) := by kernel_rfl
theorem info46 : (Tryd.prog.info? 46).map (fun i => (i.zero, i.size, i.bytes)) = some (some (.slice none 0 0), 1, 24) := by kernel_rfl
/-- what lies in memory while the answers are made -/
structure Apt (w : World) (B n X gr T : Nat) (m : Nat → Bool) (N : Nat) (R : Nat → SRec) (mv : Value) (wr : World) : Prop where
  fam : SFam wr n (4 + N) R
  row : wr.ownsRow (X + 1) 24 1 mv N (ptrs R 4 N)
  xs : wr.heap[X]? = some (.cells (ptrs R 0 4).toArray 24 (0, 0))
  own : ROwn wr gr n m
  box : wr.heap[T]? = some (refBox gr n)
  below : Below B w wr
  base : B ≤ wr.heap.size
  bx : B ≤ X
  ge : ∀ i, i < 4 + N → B ≤ (R i).S ∧ B ≤ (R i).g
theorem Apt.keep {w wr w' : World} {B n X gr T N : Nat} {m : Nat → Bool} {R : Nat → SRec} {mv : Value} (h : Apt w B n X gr T m N R mv wr) (hb : Below wr.heap.size wr w') : Apt w B n X gr T m N R mv w' :=
  ⟨h.fam.keep hb, row_keepTy h.row (keepTy_below hb 24), (hb.block _ (heap_lt h.xs)).trans h.xs, h.own.keep hb, (hb.block _ (heap_lt h.box)).trans h.box, h.below.trans (hb.mono h.base), Nat.le_trans h.base hb.size, h.bx, h.ge⟩
theorem ptrs_snoc {R : Nat → SRec} {N : Nat} {r : SRec} (a k : Nat) (h : a + k ≤ N) : ptrs (snocR R N r) a k = ptrs R a k := ptrs_congr fun i hi => by unfold snocR; rw [if_neg (by omega)]
theorem srcc_cells {w : World} {Y n s : Nat} {cs : List Value} {t : TypeId} (h : w.heap[Y]? = some (.cells cs.toArray t (0, 0))) (hl : cs.length = n * s) : SrcC w (.slice (some ⟨Y, 0, none⟩) n n) n s cs :=
  ⟨hl, .inr ⟨⟨Y, 0, none⟩, n, rfl, fun j u hj => by
    have e : w.cell? ((⟨Y, 0, none⟩ : Addr).add j) = w.cell? ⟨Y, j, none⟩ := by rw [Addr.add_lit, Nat.zero_add]
    rw [e, cell_at h]
    simpa using hj⟩⟩
set_option maxRecDepth 100000 in
/-- new sets are appended to the list of what was made -/
theorem apt_push {w wr w1 : World} {B n X gr T N k : Nat} {m : Nat → Bool} {R R' : Nat → SRec} {mv : Value} (h : Apt w B n X gr T m N R mv wr) (hb : Below wr.heap.size wr w1) (hf : SFam w1 n (4 + (N + k)) R') (hR : ∀ i, i < 4 + N → R' i = R i) (hN : N + k ≤ 1000) (hge : ∀ i, i < 4 + (N + k) → B ≤ (R' i).S ∧ B ≤ (R' i).g) :
    ∃ v' w', (Builtin.append_ #[119, 119] 119 #[mv, .slice (some ⟨w1.heap.size, 0, none⟩) k k]).run Tryd.prog (w1.alloc (.cells (ptrs R' (4 + N) k).toArray 24)) = .ok v' w' ∧ Apt w B n X gr T m (N + k) R' v' w' := by
  obtain ⟨i0, hi, hz0, hz1, hz2⟩ := info_parts info24
  have h1 := h.keep hb
  have hba := (Below.refl w1.heap.size w1).alloc (Nat.le_refl _) (.cells (ptrs R' (4 + N) k).toArray 24)
  have h2 := h1.keep hba
  have hX := heap_lt h.xs
  have hsz : wr.heap.size ≤ w1.heap.size := hb.size
  obtain ⟨v6, w6, k1, k2, k3, k4⟩ := run_row (w1.alloc (.cells (ptrs R' (4 + N) k).toArray 24)) (X + 1) 119 119 24 i0 _ 1 8 Tryd.underlying119 hi hz0 hz1 hz2 rfl (by decide) _ _ N k (ptrs R 4 N) (ptrs R' (4 + N) k) h2.row (srcc_cells (heap_new rfl _) (by rw [ptrs_len]; omega)) (ptrs_one _ _ _) (by unfold maxLen; omega) (by omega) (by rw [World.size_alloc]; omega)
  have hbig : Below w1.heap.size w1 (w1.alloc (.cells (ptrs R' (4 + N) k).toArray 24)) := hba
  have hg6 : ∀ q, mv.ownBlock = some q → q ≠ X := fun q hq => by have := (World.ownsRow.lt h2.row q hq).1; omega
  have hkt : ∀ t : TypeId, 24 ≠ t → KeepTy (w1.alloc (.cells (ptrs R' (4 + N) k).toArray 24)) w6 t := fun t ht => keepTy_grown k3 (notTy_row h2.row ht)
  have hf2 := hf.keep hba
  refine ⟨v6, w6, k1, ?_, ?_, ?_, hkt 4 (by decide) _ _ _ h2.own, ?_, ?_, Nat.le_trans h2.base k3.size, h.bx, hge⟩
  · refine ⟨fun i hi => ?_, hf2.ap⟩
    have hs := hf2.at_ i hi
    obtain ⟨cur, c1, _⟩ := hs.ws
    refine hs.same ?_ ?_
    · rw [hs.hd]; exact hkt 82 (by decide) _ _ _ hs.hd
    · rw [c1]; exact hkt 83 (by decide) _ _ _ c1
  · have e : ptrs R' 4 (N + k) = ptrs R 4 N ++ ptrs R' (4 + N) k := by
      unfold ptrs
      rw [List.range_add, List.map_append, List.map_map]
      congr 1
      · exact List.map_congr_left fun i hi => by rw [hR (4 + i) (by have := List.mem_range.1 hi; omega)]
      · exact List.map_congr_left fun i hi => by simp only [Function.comp, Nat.add_assoc]
    rw [e]
    exact k2
  · have e : ptrs R' 0 4 = ptrs R 0 4 := ptrs_congr fun i hi => by rw [hR (0 + i) (by omega)]
    rw [e]
    refine (k3.block X (heap_lt h2.xs) ?_).trans h2.xs
    intro e'
    exact hg6 X e'.symm rfl
  · exact hkt 54 (by decide) _ _ _ h2.box
  · refine h2.below.grown k3 h2.base (fun q hq => ?_)
    have h3 := (World.ownsRow.lt h2.row q hq).1
    have h4 := h.bx
    omega
theorem keepTy_alloc' (w : World) (o : Obj) (t : TypeId) : KeepTy w (w.alloc o) t := fun _ _ _ h => heap_old h o
theorem snocR_at (R : Nat → SRec) (N : Nat) (r : SRec) : snocR R N r N = r := if_pos rfl
theorem snocR_lt (R : Nat → SRec) {N i : Nat} (r : SRec) (h : i < N) : snocR R N r i = R i := if_neg (by omega)
set_option maxRecDepth 100000 in
theorem apt_push1 {w wr w1 : World} {B n X gr T N S g cap : Nat} {m m' : Nat → Bool} {R : Nat → SRec} {mv : Value} (h : Apt w B n X gr T m N R mv wr) (hb : Below wr.heap.size wr w1) (hS : wr.heap.size ≤ S) (hg : wr.heap.size ≤ g) (hs : SetAt w1 S g cap n m') (hN : N + 1 ≤ 1000) :
    ∃ v' w', (Builtin.append_ #[119, 119] 119 #[mv, .slice (some ⟨w1.heap.size, 0, none⟩) 1 1]).run Tryd.prog (w1.alloc (.cells #[.pointer (some ⟨S, 0, none⟩)] 24)) = .ok v' w' ∧ Apt w B n X gr T m (N + 1) (snocR R (4 + N) ⟨S, g, cap, m'⟩) v' w' := by
  have hB := h.base
  obtain ⟨v', w', k1, k2⟩ := apt_push (k := 1) h hb (h.fam.snoc hb hS hg hs) (fun i hi => snocR_lt R _ hi) hN (fun i hi => by
    by_cases e : i = 4 + N
    · subst e
      rw [snocR_at]
      exact ⟨by dsimp only; omega, by dsimp only; omega⟩
    · rw [snocR_lt R _ (by omega)]
      exact h.ge i (by omega))
  have e : ptrs (snocR R (4 + N) ⟨S, g, cap, m'⟩) (4 + N) 1 = [.pointer (some ⟨S, 0, none⟩)] := by
    rw [ptrs_succ, Nat.add_zero, snocR_at]
    rfl
  rw [e] at k1
  exact ⟨v', w', k1, k2⟩
set_option maxRecDepth 100000 in
theorem apt_push2 {w wr w0 w1 : World} {B n X gr T N S g cap S' g' cap' : Nat} {m m' m2 : Nat → Bool} {R : Nat → SRec} {mv : Value} (h : Apt w B n X gr T m N R mv wr) (hb0 : Below wr.heap.size wr w0) (hS : wr.heap.size ≤ S) (hg : wr.heap.size ≤ g) (hs : SetAt w0 S g cap n m')
    (hb : Below w0.heap.size w0 w1) (hS' : w0.heap.size ≤ S') (hg' : w0.heap.size ≤ g') (hs' : SetAt w1 S' g' cap' n m2) (hN : N + 2 ≤ 1000) :
    ∃ v' w', (Builtin.append_ #[119, 119] 119 #[mv, .slice (some ⟨w1.heap.size, 0, none⟩) 2 2]).run Tryd.prog (w1.alloc (.cells #[.pointer (some ⟨S, 0, none⟩), .pointer (some ⟨S', 0, none⟩)] 24)) = .ok v' w' ∧ Apt w B n X gr T m (N + 2) (snocR (snocR R (4 + N) ⟨S, g, cap, m'⟩) (4 + N + 1) ⟨S', g', cap', m2⟩) v' w' := by
  have hB := h.base
  have hsz := hb0.size
  obtain ⟨v', w', k1, k2⟩ := apt_push (k := 2) h (hb0.trans (hb.mono hb0.size)) ((h.fam.snoc hb0 hS hg hs).snoc hb hS' hg' hs') (fun i hi => by rw [snocR_lt _ _ (by omega), snocR_lt _ _ hi]) hN (fun i hi => by
    by_cases e : i = 4 + N + 1
    · subst e
      rw [snocR_at]
      exact ⟨by dsimp only; omega, by dsimp only; omega⟩
    · rw [snocR_lt _ _ (by omega)]
      by_cases e : i = 4 + N
      · subst e
        rw [snocR_at]
        exact ⟨by dsimp only; omega, by dsimp only; omega⟩
      · rw [snocR_lt R _ (by omega)]
        exact h.ge i (by omega))
  have e : ptrs (snocR (snocR R (4 + N) ⟨S, g, cap, m'⟩) (4 + N + 1) ⟨S', g', cap', m2⟩) (4 + N) 2 = [.pointer (some ⟨S, 0, none⟩), .pointer (some ⟨S', 0, none⟩)] := by
    have e1 : snocR (snocR R (4 + N) ⟨S, g, cap, m'⟩) (4 + N + 1) ⟨S', g', cap', m2⟩ (4 + N + 0) = ⟨S, g, cap, m'⟩ := (snocR_lt _ _ (by omega)).trans (snocR_at _ _ _)
    rw [ptrs_succ, ptrs_succ, snocR_at, e1]
    rfl
  rw [e] at k1
  exact ⟨v', w', k1, k2⟩
theorem Apt.set {w wr w' : World} {B n X gr T N i : Nat} {m m' : Nat → Bool} {R : Nat → SRec} {mv : Value} (h : Apt w B n X gr T m N R mv wr) (hi : i < 4 + N) (hs : SetAt w' (R i).S (R i).g (R i).cap n m') (hf : Foot wr w' (fun k => k = (R i).S ∨ k = (R i).g)) : Apt w B n X gr T m N (setW R i m') mv w' := by
  have hk := fun t => keepTy_set (h.fam.at_ i hi) hf t
  have hp : ∀ a k, ptrs (setW R i m') a k = ptrs R a k := fun a k => ptrs_congr fun j _ => (setW_S R i m' _).1
  have hge := h.ge i hi
  refine ⟨h.fam.set hi hs hf, ?_, ?_, hk 4 (by decide) (by decide) _ _ _ h.own, hk 54 (by decide) (by decide) _ _ _ h.box, ?_, Nat.le_trans h.base hf.size, h.bx, fun j hj => ?_⟩
  · rw [hp]; exact row_keepTy h.row (hk 24 (by decide) (by decide))
  · rw [hp]; exact hk 24 (by decide) (by decide) _ _ _ h.xs
  · exact h.below.trans (hf.below (fun k hk => by rcases hk with rfl | rfl; exact hge.1; exact hge.2) h.base)
  · rw [(setW_S R i m' j).1, (setW_S R i m' j).2.1]; exact h.ge j hj
theorem Apt.x {w wr : World} {B n X gr T N : Nat} {m : Nat → Bool} {R : Nat → SRec} {mv : Value} (h : Apt w B n X gr T m N R mv wr) {i : Nat} (hi : i < 4) : wr.cell? ⟨X, i, none⟩ = some (.pointer (some ⟨(R i).S, 0, none⟩)) := by
  rw [cell_at h.xs]
  have := ptrs_get R 0 hi
  rw [Nat.zero_add] at this
  simpa using this
/-- the element of an own row -/
theorem own_cell {w : World} {B e n : Nat} {v : Value} {xs : List Value} (h : w.ownsRow B e 1 v n xs) {i : Nat} (hi : i < n) : ∃ g cap, v = .slice (some ⟨g, 0, none⟩) n cap ∧ n ≤ cap ∧ cap ≤ 9223372036854775807 ∧ w.cell? ⟨g, i, none⟩ = xs[i]? := by
  rcases h.2 with ⟨_, h0⟩ | ⟨g, cap, cur, rfl, _, hh, hn, hm, hs, ht⟩
  · omega
  · refine ⟨g, cap, rfl, hn, hm, ?_⟩
    rw [cell_at hh, ← ht, List.getElem?_take, if_pos (by omega), Array.getElem?_toList]
abbrev slV (q : Nat) (l : List Nat) : Value := .slice (some ⟨q, 0, none⟩) l.length l.length
def forms (n : Nat) (R : Nat → SRec) (W : Nat → Nat) (K : Nat) : List Value := (List.range K).map fun i => slV (W i) (encS n (R (4 + i)).m)
theorem forms_len (n : Nat) (R : Nat → SRec) (W : Nat → Nat) (K : Nat) : (forms n R W K).length = K := by simp [forms]
theorem forms_get (n : Nat) (R : Nat → SRec) (W : Nat → Nat) {K i : Nat} (h : i < K) : (forms n R W K)[i]? = some (slV (W i) (encS n (R (4 + i)).m)) := by simp [forms, h]
theorem forms_congr {n : Nat} {R R' : Nat → SRec} {W W' : Nat → Nat} {K : Nat} (h : ∀ i, i < K → W i = W' i ∧ (R (4 + i)).m = (R' (4 + i)).m) : forms n R W K = forms n R' W' K :=
  List.map_congr_left fun i hi => by rw [(h i (List.mem_range.1 hi)).1, (h i (List.mem_range.1 hi)).2]
theorem forms_succ (n : Nat) (R : Nat → SRec) (W : Nat → Nat) (K : Nat) : forms n R W (K + 1) = forms n R W K ++ [slV (W K) (encS n (R (4 + K)).m)] := by simp [forms, List.range_succ]
structure Wst (w : World) (B n X gr T : Nat) (m : Nat → Bool) (N : Nat) (R : Nat → SRec) (mv : Value) (K : Nat) (wv : Value) (wr : World) : Prop where
  apt : Apt w B n X gr T m N R mv wr
  was : ∃ W : Nat → Nat, wr.ownsRow B 46 1 wv K (forms n R W K) ∧ ∀ i, i < K → wr.heap[W i]? = some (.cells (u8s (encS n (R (4 + i)).m)).toArray 5 (0, 0))
theorem Wst.keep {w wr w' : World} {B n X gr T N K : Nat} {m : Nat → Bool} {R : Nat → SRec} {mv wv : Value} (h : Wst w B n X gr T m N R mv K wv wr) (hb : Below wr.heap.size wr w') : Wst w B n X gr T m N R mv K wv w' := by
  obtain ⟨W, h1, h2⟩ := h.was
  exact ⟨h.apt.keep hb, W, row_keepTy h1 (keepTy_below hb 46), fun i hi => (hb.block _ (heap_lt (h2 i hi))).trans (h2 i hi)⟩
theorem Wst.start {w wr : World} {B n X gr T N : Nat} {m : Nat → Bool} {R : Nat → SRec} {mv : Value} (h : Apt w B n X gr T m N R mv wr) : Wst w B n X gr T m N R mv 0 (.slice none 0 0) wr :=
  ⟨h, fun _ => 0, World.ownsRow_nil _ _ _ _, fun i hi => absurd hi (by omega)⟩
theorem Wst.set {w wr w' : World} {B n X gr T N K i : Nat} {m m' : Nat → Bool} {R : Nat → SRec} {mv wv : Value} (h : Wst w B n X gr T m N R mv K wv wr) (hi : i < 4 + N) (hK : i < 4 ∨ 4 + K ≤ i) (hs : SetAt w' (R i).S (R i).g (R i).cap n m') (hf : Foot wr w' (fun k => k = (R i).S ∨ k = (R i).g)) :
    Wst w B n X gr T m N (setW R i m') mv K wv w' := by
  obtain ⟨W, h1, h2⟩ := h.was
  have hk := fun t => keepTy_set (h.apt.fam.at_ i hi) hf t
  have he : ∀ j, j < K → (setW R i m' (4 + j)).m = (R (4 + j)).m := fun j hj => by rw [setW_m R i m' (by omega)]
  refine ⟨h.apt.set hi hs hf, W, ?_, fun j hj => ?_⟩
  · rw [forms_congr (R' := R) (W' := W) (fun j hj => ⟨rfl, he j hj⟩)]
    exact row_keepTy h1 (hk 46 (by decide) (by decide))
  · rw [he j hj]
    exact hk 5 (by decide) (by decide) _ _ _ (h2 j hj)
set_option maxRecDepth 100000 in
theorem was_push {w wr w1 : World} {B n X gr T N K q : Nat} {m : Nat → Bool} {R : Nat → SRec} {mv wv : Value} (h : Wst w B n X gr T m N R mv K wv wr) (hb : Below wr.heap.size wr w1) (hq : w1.heap[q]? = some (.cells (u8s (encS n (R (4 + K)).m)).toArray 5 (0, 0))) (hK : K + 1 ≤ 1000) :
    ∃ v' w', (Builtin.append_ #[120, 120] 120 #[wv, .slice (some ⟨w1.heap.size, 0, none⟩) 1 1]).run Tryd.prog (w1.alloc (.cells #[slV q (encS n (R (4 + K)).m)] 46)) = .ok v' w' ∧ Wst w B n X gr T m N R mv (K + 1) v' w' := by
  obtain ⟨i0, hi, hz0, hz1, hz2⟩ := info_parts info46
  have hba := (Below.refl w1.heap.size w1).alloc (Nat.le_refl _) (.cells #[slV q (encS n (R (4 + K)).m)] 46)
  have h2 := (h.keep hb).keep hba
  obtain ⟨W, c1, c2⟩ := h2.was
  obtain ⟨v6, w6, k1, k2, k3, k4⟩ := run_row (w1.alloc (.cells #[slV q (encS n (R (4 + K)).m)] 46)) B 120 120 46 i0 _ 1 24 Tryd.underlying120 hi hz0 hz1 hz2 rfl (by decide) _ _ K 1 (forms n R W K) [slV q (encS n (R (4 + K)).m)] c1 (srcc_cells (heap_new rfl _) rfl) (fun u hu => by rw [List.mem_singleton.1 hu]; rfl) (by unfold maxLen; omega) (by omega) h2.apt.base
  have hkt : ∀ t : TypeId, 46 ≠ t → KeepTy (w1.alloc (.cells #[slV q (encS n (R (4 + K)).m)] 46)) w6 t := fun t ht => keepTy_grown k3 (notTy_row c1 ht)
  have hX : ∀ p, wv.ownBlock = some p → B ≤ p := fun p hp => (World.ownsRow.lt c1 p hp).1
  have ha := h2.apt
  refine ⟨v6, w6, k1, ⟨?_, row_keepTy ha.row (hkt 24 (by decide)), hkt 24 (by decide) _ _ _ ha.xs, hkt 4 (by decide) _ _ _ ha.own, hkt 54 (by decide) _ _ _ ha.box, ha.below.grown k3 ha.base hX, Nat.le_trans ha.base k3.size, ha.bx, ha.ge⟩,
    fun i => if i = K then q else W i, ?_, fun i hi => ?_⟩
  · refine ⟨fun i hi => ?_, ha.fam.ap⟩
    have hs := ha.fam.at_ i hi
    obtain ⟨cur, d1, _⟩ := hs.ws
    refine hs.same ?_ ?_
    · rw [hs.hd]; exact hkt 82 (by decide) _ _ _ hs.hd
    · rw [d1]; exact hkt 83 (by decide) _ _ _ d1
  · rw [forms_succ, if_pos rfl, forms_congr (R' := R) (W' := W) (fun i hi => ⟨if_neg (by omega), rfl⟩)]
    exact k2
  · by_cases e : i = K
    · subst e
      have e1 : (fun j => if j = i then q else W j) i = q := if_pos rfl
      rw [e1]
      exact hkt 5 (by decide) _ _ _ (heap_old hq _)
    · have e1 : (fun j => if j = K then q else W j) i = W i := if_neg e
      rw [e1]
      exact hkt 5 (by decide) _ _ _ (c2 i (by omega))
theorem joined_any (w : World) (k : Nat) (hk : 1 ≤ k ∧ k ≤ 3) {S1 g1 cap1 S2 g2 cap2 n : Nat} {m1 m2 : Nat → Bool} (h1 : SetAt w S1 g1 cap1 n m1) (h2 : SetAt w S2 g2 cap2 n m2) :
    Calls Tryd.prog 26 #[.int .i64 (k : Nat), .pointer (some ⟨S1, 0, none⟩), .pointer (some ⟨S2, 0, none⟩)] w fun e w' => ∃ S g m', e = .returned (.pointer (some ⟨S, 0, none⟩)) ∧ w.heap.size ≤ S ∧ w.heap.size ≤ g ∧ SetAt w' S g (nw n) n m' ∧ Below w.heap.size w w' := by
  obtain rfl | rfl | rfl : k = 1 ∨ k = 2 ∨ k = 3 := by omega
  · exact (joined_1 w h1 h2).mono fun e w' ⟨S, g, a, b, c, d, f⟩ => ⟨S, g, _, a, b, c, d, f⟩
  · exact (joined_2 w h1 h2).mono fun e w' ⟨S, g, a, b, c, d, f⟩ => ⟨S, g, _, a, b, c, d, f⟩
  · exact (joined_3 w h1 h2).mono fun e w' ⟨S, g, a, b, c, d, f⟩ => ⟨S, g, _, a, b, c, d, f⟩
end Go.Proofs.YtmkbbekeimnajaaDoor

/-! WReads: DocsetReads: the walk -/
namespace Go.Proofs.YtmkbbekeimnajaaDoor
open Go.RowKit Ds
structure RdSt (w : World) (T S g2 g n : Nat) (m1 m : Nat → Bool) (wr : World) : Prop where
  set : SetAt wr S g2 (nw n) n m1
  own : ROwn wr g n m
  box : wr.heap[T]? = some (.cells #[.int .i64 (n : Nat), .slice (some ⟨g, 0, none⟩) n n] 54 (0, 0))
  deb : DeBr wr
  size : 15 < wr.heap.size
  below : Below w.heap.size w wr
theorem RdSt.keep {w wr w' : World} {T S g2 g n : Nat} {m1 m : Nat → Bool} (h : RdSt w T S g2 g n m1 m wr) (hb : Below wr.heap.size wr w') : RdSt w T S g2 g n m1 m w' :=
  ⟨h.set.keep hb, h.own.keep hb, (hb.block _ (heap_lt h.box)).trans h.box, debr_below h.deb hb h.size, Nat.lt_of_lt_of_le h.size hb.size, h.below.trans (hb.mono h.below.size)⟩
set_option maxRecDepth 100000 in
set_option maxHeartbeats 4000000 in
theorem reads_walk (w : World) (T : DeBr w) (E : Nat → Addr) (hE : Errs w E allErrs) (hg : 25 ≤ w.heap.size) (ao : Option Addr) (k0 : Nat) (bs : List Nat) (h1 : Src w (.slice ao bs.length k0) bs) (hl1 : bs.length ≤ 140737488351232) :
    Calls Tryd.prog 6 #[.slice ao bs.length k0] w fun e w' => e = .returned (.bool true) ∧ Below w.heap.size w w' := by
  have HT := hide T
  have HE := hide hE
  have H1 := hide h1
  clear T hE h1
  go_enter Tryd.func6, Tryd.ntmps6
  go_wp2_with fail
  refine (fixed_any w E HE.out HT.out hg).mono ?_
  rintro e w1 ⟨rfl, hb1⟩
  have HB1 := hide hb1
  have z1 := hb1.size
  have HE1 := hide (HE.out.below hb1 (Nat.le_refl _) (ids_lt hg))
  have HS1 := hide (src_keep H1.out hb1)
  clear hb1
  go_wp2_with fail
  refine (ref_decode w1 _ bs HS1.out hl1).mono ?_
  rintro e w2 ⟨hd, hb2⟩
  have HB2 := hide (HB1.out.trans (hb2.mono z1))
  have z2 := HB2.out.size
  clear hb2
  unfold RefDec at hd
  rcases hd with ⟨n, m, g, hn, hbs, rfl, hgg, hown⟩ | ⟨hno, rfl⟩
  · have HO := hide hown
    have HBS := hide hbs
    clear hown hbs
    have hbox : (w2.alloc (.cells #[.int .i64 (n : Nat), .slice (some ⟨g, 0, none⟩) n n] 54)).heap[w2.heap.size]? = some (.cells #[.int .i64 (n : Nat), .slice (some ⟨g, 0, none⟩) n n] 54 (0, 0)) := heap_new rfl _
    have HBOX := hide hbox
    have hsz := World.size_alloc w2 (.cells #[.int .i64 (n : Nat), .slice (some ⟨g, 0, none⟩) n n] 54)
    have hbb := (Below.refl w2.heap.size w2).alloc (Nat.le_refl _) (.cells #[.int .i64 (n : Nat), .slice (some ⟨g, 0, none⟩) n n] 54)
    have HBB := hide hbb
    have HO3 := hide (HO.out.keep hbb)
    have HB3 := hide (HB2.out.trans (hbb.mono z2))
    have HE3 := hide (HE.out.below HB3.out (Nat.le_refl _) (ids_lt hg))
    have HS3 := hide (src_keep H1.out HB3.out)
    have z3 := HB3.out.size
    clear hbox hbb HO
    go_upto_region 4 with (fail)
    obtain ⟨T0, hT0⟩ : ∃ T, w2.heap.size = T := ⟨_, rfl⟩
    rw [hT0] at HBOX ⊢
    generalize w2.alloc (.cells #[.int .i64 (n : Nat), .slice (some ⟨g, 0, none⟩) n n] 54) = w3 at *
    go_wp2_with fail
    refine (decode_any w3 _ bs HS3.out hl1 E HE3.out (by omega)).mono ?_
    rintro e w4 ⟨hd, hb4⟩
    have HB4 := hide (HB3.out.trans (hb4.mono z3))
    have z4 := HB4.out.size
    unfold DecOut at hd
    rcases hd with ⟨n1, m1, S, g2, hn1, hbs1, rfl, hS, hgg2, hs⟩ | ⟨hno, rfl⟩
    · obtain ⟨rfl, _⟩ := uv_inj hn1 hn (show Uv.uv n1 ++ body n1 m1 (nb n1) = Uv.uv n ++ body n m (nb n) from by rw [← encS, ← encS, ← hbs1, HBS.out])
      have hmm := encS_inj (hbs1.symm.trans HBS.out)
      have HM := hide (show mI m1 n1 = mI m n1 from by unfold mI; rw [mem_congr hmm])
      have HST := hide (show RdSt w T0 S g2 g n1 m1 m w4 from ⟨hs, HO3.out.keep hb4, (hb4.block _ (heap_lt HBOX.out)).trans HBOX.out, debr_below HT.out HB4.out (by omega), by omega, HB4.out⟩)
      clear hs hb4 hbs1 hmm
      go_wp2_with fail
      refine (num_nil w4).mono ?_
      rintro e wz ⟨rfl, rfl⟩
      go_upto_region 7 with (fail)
      have hD := HST.out.keep (w' := w4.drew) ((Below.refl _ _).drew)
      obtain ⟨c0, c1⟩ := cells2 hD.box
      have hcl := cnt_le m n1
      go_region_law (first
        | (go_simp; go_at_call 32; refine (len_any _ (by assumption : RdSt w T0 S g2 g n1 m1 m _).set).mono ?_; rintro e w' ⟨rfl, rfl⟩)
        | (go_simp; go_at_call 13; refine (members_any _ (by assumption : RdSt w T0 S g2 g n1 m1 m _).set (by assumption : RdSt w T0 S g2 g n1 m1 m _).deb (by assumption : RdSt w T0 S g2 g n1 m1 m _).size).mono ?_; rintro e w5 ⟨v5, rfl, ho5, hb5⟩; have hi5 := ints_own (zs := mI m1 n1) (by rw [mI_len]; exact ho5); rw [HM.out] at hi5; obtain ⟨a5, k5, rfl⟩ := ints_form hi5; have hst5 := RdSt.keep (by assumption : RdSt w T0 S g2 g n1 m1 m _) hb5; obtain ⟨c05, c15⟩ := cells2 hst5.box; try (have hi6' := ints_keep hi6 hb5); clear ho5)
        | (go_simp; go_at_call 33; refine (ref_members _ (by assumption : RdSt w T0 S g2 g n1 m1 m _).own hn1).mono ?_; rintro e w6 ⟨v6, rfl, ho6, hb6⟩; have hi6 := ints_own (zs := mI m n1) (by rw [mI_len]; exact ho6); obtain ⟨a6, k6, rfl⟩ := ints_form hi6; have hst6 := RdSt.keep (by assumption : RdSt w T0 S g2 g n1 m1 m _) hb6; obtain ⟨c06, c16⟩ := cells2 hst6.box; try (have hi5' := ints_keep hi5 hb6); clear ho6)
        | (go_simp; go_at_call 23; refine (ints_equal _ _ _ _ _ (mI m n1) (mI m n1) (by assumption) (by assumption) (by rw [mI_len]; omega)).mono ?_; rintro e w7 ⟨rfl, q7, rfl⟩))
      all_goals
        go_wp2_with fail
        go_ret
        exact ⟨rfl, below_drewN (RdSt.below (by assumption : RdSt w T0 S g2 g n1 m1 m _)) _⟩
    · exact absurd HBS.out (hno n m hn)
  · have hno' := hno
    have hsz := World.size_alloc w2 (.cells #[.int .i64 0, .slice none 0 0] 54)
    have hbb := (Below.refl w2.heap.size w2).alloc (Nat.le_refl _) (.cells #[.int .i64 0, .slice none 0 0] 54)
    have HBB := hide hbb
    have HB3 := hide (HB2.out.trans (hbb.mono z2))
    have HE3 := hide (HE.out.below HB3.out (Nat.le_refl _) (ids_lt hg))
    have HS3 := hide (src_keep H1.out HB3.out)
    have z3 := HB3.out.size
    clear hbb
    go_upto_region 4 with (fail)
    generalize w2.alloc (.cells #[.int .i64 0, .slice none 0 0] 54) = w3 at *
    go_wp2_with fail
    refine (decode_any w3 _ bs HS3.out hl1 E HE3.out (by omega)).mono ?_
    rintro e w4 ⟨hd, hb4⟩
    have HB4 := hide (HB3.out.trans (hb4.mono z3))
    unfold DecOut at hd
    rcases hd with ⟨n1, m1, S, g2, hn1, hbs1, rfl, _⟩ | ⟨_, rfl⟩
    · exact absurd hbs1 (hno' n1 m1 hn1)
    · have HE4 := hide (HE.out.below HB4.out (Nat.le_refl _) (ids_lt hg))
      clear hb4
      go_wp2_with fail
      refine (num_corrupt w4 E HE4.out).mono ?_
      rintro e wz ⟨rfl, rfl⟩
      go_wp2_with fail
      go_quiet (fail)
      go_wp2_with fail
      go_ret
      exact ⟨rfl, below_drewN HB4.out _⟩
end Go.Proofs.YtmkbbekeimnajaaDoor

/-! To: what lies in memory while the answers of a set are looked at (40) -/
namespace Go.Proofs.YtmkbbekeimnajaaDoor
open Go.RowKit Ds
/-- a set, the table, and what has been added to the memory -/
structure Rs1 (wb : World) (S g cap n : Nat) (m : Nat → Bool) (wr : World) : Prop where
  set : SetAt wr S g cap n m
  deb : DeBr wr
  size : 15 < wr.heap.size
  below : Below wb.heap.size wb wr
theorem Rs1.keep {wb wr w' : World} {S g cap n : Nat} {m : Nat → Bool} (h : Rs1 wb S g cap n m wr) (hb : Below wr.heap.size wr w') : Rs1 wb S g cap n m w' :=
  ⟨h.set.keep hb, debr_below h.deb hb h.size, Nat.lt_of_lt_of_le h.size hb.size, h.below.trans (hb.mono h.below.size)⟩
theorem SetAt.far {w : World} {S g cap n p i : Nat} {m : Nat → Bool} (h : SetAt w S g cap n m) {cs : Array Value} {t : TypeId} {fr : Nat × Nat} (hp : w.heap[p]? = some (.cells cs t fr)) (h1 : t ≠ 82) (h2 : t ≠ 83) (x : Value) : SetAt (w.setCell ⟨p, i, none⟩ x) S g cap n m := by
  obtain ⟨cur, k1, _⟩ := h.ws
  refine h.same ?_ ?_
  · rw [h.hd]; exact keepTy_at hp h1 x _ _ _ h.hd
  · rw [k1]; exact keepTy_at hp h2 x _ _ _ k1
theorem SetAt.keepTy {w w' : World} {S g cap n : Nat} {m : Nat → Bool} (h : SetAt w S g cap n m) (h1 : KeepTy w w' 82) (h2 : KeepTy w w' 83) : SetAt w' S g cap n m := by
  obtain ⟨cur, k1, _⟩ := h.ws
  refine h.same ?_ ?_
  · rw [h.hd]; exact h1 _ _ _ h.hd
  · rw [k1]; exact h2 _ _ _ k1
theorem row_heap {wr : World} {B e sz k n g c : Nat} {v : Value} {xs : List Value} (h : wr.ownsRow B e sz v n xs) (hv : v = .slice (some ⟨g, 0, none⟩) k c) : ∃ cur : Array Value, wr.heap[g]? = some (.cells cur e (0, 0)) ∧ B ≤ g := by
  subst hv
  rcases h.2 with ⟨h0, _⟩ | ⟨g', c', cur, hv, hb, hh, _⟩
  · cases h0
  · simp only [Value.slice.injEq, Option.some.injEq, Addr.mk.injEq] at hv
    obtain ⟨⟨rfl, _⟩, _⟩ := hv
    exact ⟨cur, hh, hb⟩
structure Tot (w : World) (S g cap n : Nat) (m : Nat → Bool) (v1 v2 v3 : Value) (xs1 : List Int) (xs2 : List (Nat × Nat)) (xs3 : List Nat) (A1 A2 A3 : Nat) (V1 V2 V3 : Nat → Value) (C1 C2 C3 : Nat → List Value) (K : Nat) (wr : World) : Prop where
  set : SetAt wr S g cap n m
  base : w.heap.size ≤ wr.heap.size
  below : Below w.heap.size w wr
  t1 : Trip w.heap.size 3 1 A1 115 v1 (intCells xs1) V1 xs1.length C1 K wr
  t2 : Trip w.heap.size 43 2 A2 116 v2 (runCells xs2) V2 xs2.length C2 K wr
  t3 : Trip w.heap.size 5 1 A3 117 v3 (u8s xs3) V3 xs3.length C3 K wr
  ge : w.heap.size ≤ A1 ∧ w.heap.size ≤ A2 ∧ w.heap.size ≤ A3
section
variable {w wr w' : World} {S g cap n A1 A2 A3 K : Nat} {m : Nat → Bool} {v1 v2 v3 : Value} {xs1 : List Int} {xs2 : List (Nat × Nat)} {xs3 : List Nat} {V1 V2 V3 : Nat → Value} {C1 C2 C3 : Nat → List Value}
theorem Tot.keep (h : Tot w S g cap n m v1 v2 v3 xs1 xs2 xs3 A1 A2 A3 V1 V2 V3 C1 C2 C3 K wr) (hb : Below wr.heap.size wr w') : Tot w S g cap n m v1 v2 v3 xs1 xs2 xs3 A1 A2 A3 V1 V2 V3 C1 C2 C3 K w' :=
  ⟨h.set.keep hb, Nat.le_trans h.base hb.size, h.below.trans (hb.mono h.base), h.t1.keep hb, h.t2.keep hb, h.t3.keep hb, h.ge⟩
def updV (V : Nat → Value) (k : Nat) (u : Value) : Nat → Value := fun j => if j = k then u else V j
theorem upd_const (k : Nat) (L : List Value) : (fun j : Nat => if j = k then L else L) = fun _ => L := by
  funext j
  split <;> rfl
theorem Tot.add {w7 : World} {u1 u2 u3 : Value} {B1 B2 B3 : Nat} (h : Tot w S g cap n m v1 v2 v3 xs1 xs2 xs3 A1 A2 A3 V1 V2 V3 (fun _ => intCells xs1) (fun _ => runCells xs2) (fun _ => u8s xs3) K wr) (hK : K < 3) (hb : Below wr.heap.size wr w7)
    (h1 : w7.ownsRow B1 3 1 u1 xs1.length (intCells xs1)) (h2 : w7.ownsRow B2 43 2 u2 xs2.length (runCells xs2)) (h3 : w7.ownsRow B3 5 1 u3 xs3.length (u8s xs3)) (hB1 : wr.heap.size ≤ B1) (hB2 : wr.heap.size ≤ B2) (hB3 : wr.heap.size ≤ B3) :
    Tot w S g cap n m v1 v2 v3 xs1 xs2 xs3 A1 A2 A3 (updV V1 K u1) (updV V2 K u2) (updV V3 K u3) (fun _ => intCells xs1) (fun _ => runCells xs2) (fun _ => u8s xs3) (K + 1) (((w7.setCell ⟨A1, K, none⟩ u1).setCell ⟨A2, K, none⟩ u2).setCell ⟨A3, K, none⟩ u3) := by
  have hz := h.base
  have h7 := h.keep hb
  have a1 := h7.t1.arr
  have a2' := keepTy_at (i := K) (p := A1) a1 (t := 116) (by decide) u1 _ _ _ h7.t2.arr
  have a3 := keepTy_at (i := K) (p := A1) a1 (t := 117) (by decide) u1 _ _ _ h7.t3.arr
  have a3' := keepTy_at (i := K) (p := A2) a2' (t := 117) (by decide) u2 _ _ _ a3
  have t1 := h.t1.add h7.t1 hK h1 (by omega) hB1 (by decide)
  have t2 := h.t2.add (h7.t2.far (i := K) a1 (by decide) (by decide) u1) hK (row_keepTy h2 (keepTy_at a1 (by decide) u1)) (by omega) hB2 (by decide)
  have t3 := h.t3.add ((h7.t3.far (i := K) a1 (by decide) (by decide) u1).far (i := K) a2' (by decide) (by decide) u2) hK (row_keepTy (row_keepTy h3 (keepTy_at a1 (by decide) u1)) (keepTy_at a2' (by decide) u2)) (by omega) hB3 (by decide)
  rw [upd_const] at t1 t2 t3
  have b1 := keepTy_at (i := K) (p := A2) a2' (t := 115) (by decide) u2 _ _ _ t1.arr
  have s1 := (h7.set.far (i := K) a1 (by decide) (by decide) u1).far (i := K) a2' (by decide) (by decide) u2
  refine ⟨s1.far (i := K) a3' (by decide) (by decide) u3, by rw [World.size_setCell, World.size_setCell, World.size_setCell]; exact h7.base, below_set (below_set (below_set h7.below h.ge.1 _) h.ge.2.1 _) h.ge.2.2 _, ?_, ?_, t3, h.ge⟩
  · exact (t1.far (i := K) a2' (by decide) (by decide) u2).far (i := K) a3' (by decide) (by decide) u3
  · exact t2.far (i := K) a3' (by decide) (by decide) u3
/-- a cell of a row is written -/
theorem Tot.put1 {k g' c : Nat} (h : Tot w S g cap n m v1 v2 v3 xs1 xs2 xs3 A1 A2 A3 V1 V2 V3 C1 C2 C3 K wr) (hk : k < K) (hV : V1 k = .slice (some ⟨g', 0, none⟩) xs1.length c) (j : Nat) (x : Value) :
    Tot w S g cap n m v1 v2 v3 xs1 xs2 xs3 A1 A2 A3 V1 V2 V3 (fun i => if i = k then (C1 k).set j x else C1 i) C2 C3 K (wr.setCell ⟨g', j, none⟩ x) := by
  obtain ⟨cur, hg, hge⟩ := row_heap (h.t1.row k hk) hV
  exact ⟨h.set.far hg (by decide) (by decide) x, by rw [World.size_setCell]; exact h.base, below_set h.below hge _, h.t1.put hk hV (by decide) j x, h.t2.far hg (by decide) (by decide) x, h.t3.far hg (by decide) (by decide) x, h.ge⟩
theorem Tot.put2 {k g' c : Nat} (h : Tot w S g cap n m v1 v2 v3 xs1 xs2 xs3 A1 A2 A3 V1 V2 V3 C1 C2 C3 K wr) (hk : k < K) (hV : V2 k = .slice (some ⟨g', 0, none⟩) xs2.length c) (j : Nat) (x : Value) :
    Tot w S g cap n m v1 v2 v3 xs1 xs2 xs3 A1 A2 A3 V1 V2 V3 C1 (fun i => if i = k then (C2 k).set j x else C2 i) C3 K (wr.setCell ⟨g', j, none⟩ x) := by
  obtain ⟨cur, hg, hge⟩ := row_heap (h.t2.row k hk) hV
  exact ⟨h.set.far hg (by decide) (by decide) x, by rw [World.size_setCell]; exact h.base, below_set h.below hge _, h.t1.far hg (by decide) (by decide) x, h.t2.put hk hV (by decide) j x, h.t3.far hg (by decide) (by decide) x, h.ge⟩
theorem Tot.put3 {k g' c : Nat} (h : Tot w S g cap n m v1 v2 v3 xs1 xs2 xs3 A1 A2 A3 V1 V2 V3 C1 C2 C3 K wr) (hk : k < K) (hV : V3 k = .slice (some ⟨g', 0, none⟩) xs3.length c) (j : Nat) (x : Value) :
    Tot w S g cap n m v1 v2 v3 xs1 xs2 xs3 A1 A2 A3 V1 V2 V3 C1 C2 (fun i => if i = k then (C3 k).set j x else C3 i) K (wr.setCell ⟨g', j, none⟩ x) := by
  obtain ⟨cur, hg, hge⟩ := row_heap (h.t3.row k hk) hV
  exact ⟨h.set.far hg (by decide) (by decide) x, by rw [World.size_setCell]; exact h.base, below_set h.below hge _, h.t1.far hg (by decide) (by decide) x, h.t2.far hg (by decide) (by decide) x, h.t3.put hk hV (by decide) j x, h.ge⟩
theorem runCells_oneCell (x : Int) : ∀ u ∈ [Value.int .i64 x], u.oneCell' = true := fun u hu => by rw [List.mem_singleton.1 hu]; rfl
/-- the three slices that grow -/
structure Aps (w w0 : World) (V1 V2 V3 : Value) (n1 n2 n3 : Nat) (C1 C2 C3 : List Value) (a c d : Value) (i1 i2 i3 : Nat) (wr : World) : Prop where
  p1 : Ap w0 wr w.heap.size 3 1 V1 n1 C1 a i1
  p2 : Ap w0 wr w.heap.size 43 2 V2 n2 C2 c i2
  p3 : Ap w0 wr w.heap.size 5 1 V3 n3 C3 d i3
  foot : Foot w0 wr (fun q => V1.ownBlock = some q ∨ V2.ownBlock = some q ∨ V3.ownBlock = some q)
  base : w.heap.size ≤ w0.heap.size
theorem news_at {w : World} {Y : Nat} {cs : List Value} {t : TypeId} {fr : Nat × Nat} (h : w.heap[Y]? = some (.cells cs.toArray t fr)) : ∀ (j : Nat) (u : Value), cs[j]? = some u → w.cell? ((⟨Y, 0, none⟩ : Addr).add j) = some u := fun j u hj => by
  have e : w.cell? ((⟨Y, 0, none⟩ : Addr).add j) = w.cell? ⟨Y, j, none⟩ := by rw [Addr.add_lit, Nat.zero_add]
  rw [e, cell_at h]
  simpa using hj
section
variable {w0 : World} {U1 U2 U3 a c d : Value} {n1 n2 n3 i1 i2 i3 : Nat} {D1 D2 D3 : List Value}
set_option maxRecDepth 100000 in
theorem Aps.grow1 (h : Aps w w0 U1 U2 U3 n1 n2 n3 D1 D2 D3 a c d i1 i2 i3 wr) (x : Int) (hl : n1 + i1 + 1 ≤ 4398046511104) :
    ∃ a' w', (Builtin.append_ #[22, 22] 22 #[a, .slice (some ⟨wr.heap.size, 0, none⟩) 1 1]).run Tryd.prog (wr.alloc (.cells #[.int .i64 x] 3)) = .ok a' w' ∧ Aps w w0 U1 U2 U3 n1 n2 n3 D1 D2 D3 a' c d (i1 + 1) i2 i3 w' := by
  obtain ⟨i0, hi, hz0, hz1, hz2⟩ := info_parts info3
  have hka := fun t => keepTy_alloc' wr (.cells #[.int .i64 x] 3) t
  have q1 := h.p1.keepTy (hka 3)
  obtain ⟨tl, ht⟩ := q1.tail
  have hz := h.foot.size
  have hb := h.base
  have hf := h.foot.keep ((Below.refl wr.heap.size wr).alloc (Nat.le_refl _) (.cells #[.int .i64 x] 3))
  obtain ⟨g, cp, w', hr, hG⟩ := run_grow (wr.alloc (.cells #[.int .i64 x] 3)) w.heap.size 22 22 3 i0 _ 1 8 Tryd.underlying22 hi hz0 hz1 hz2 rfl (by decide) (by decide) a (n1 + i1) (D1 ++ tl) ht ⟨wr.heap.size, 0, none⟩ 1 [.int .i64 x] rfl (news_at (fr := (0, 0)) (heap_new rfl _)) (fun u hu => by rw [List.mem_singleton.1 hu]; rfl) hl (by rw [World.size_alloc]; omega)
  exact ⟨_, w', hr, ⟨q1.grow hG (by rw [World.size_alloc]; omega), (h.p2.keepTy (hka 43)).keepTy (hG.keepTy ht (by decide)), (h.p3.keepTy (hka 5)).keepTy (hG.keepTy ht (by decide)), q1.foot hG hf (fun k hk => .inl hk), hb⟩⟩
set_option maxRecDepth 100000 in
theorem Aps.grow2 (h : Aps w w0 U1 U2 U3 n1 n2 n3 D1 D2 D3 a c d i1 i2 i3 wr) (x y : Int) (hl : n2 + i2 + 1 ≤ 4398046511104) :
    ∃ c' w', (Builtin.append_ #[41, 41] 41 #[c, .slice (some ⟨wr.heap.size, 0, none⟩) 1 1]).run Tryd.prog (wr.alloc (.cells #[.int .i64 x, .int .i64 y] 43)) = .ok c' w' ∧ Aps w w0 U1 U2 U3 n1 n2 n3 D1 D2 D3 a c' d i1 (i2 + 1) i3 w' := by
  obtain ⟨i0, hi, hz0, hz1, hz2⟩ := info_parts info43
  have hka := fun t => keepTy_alloc' wr (.cells #[.int .i64 x, .int .i64 y] 43) t
  have q1 := h.p2.keepTy (hka 43)
  obtain ⟨tl, ht⟩ := q1.tail
  have hz := h.foot.size
  have hb := h.base
  have hf := h.foot.keep ((Below.refl wr.heap.size wr).alloc (Nat.le_refl _) (.cells #[.int .i64 x, .int .i64 y] 43))
  obtain ⟨g, cp, w', hr, hG⟩ := run_grow (wr.alloc (.cells #[.int .i64 x, .int .i64 y] 43)) w.heap.size 41 41 43 i0 _ 2 16 Tryd.underlying41 hi hz0 hz1 hz2 rfl (by decide) (by decide) c (n2 + i2) (D2 ++ tl) ht ⟨wr.heap.size, 0, none⟩ 1 [.int .i64 x, .int .i64 y] rfl (news_at (fr := (0, 0)) (heap_new rfl _)) (fun u hu => by
    simp only [List.mem_cons, List.not_mem_nil, or_false] at hu
    rcases hu with rfl | rfl
    · rfl
    · rfl) hl (by rw [World.size_alloc]; omega)
  exact ⟨_, w', hr, ⟨(h.p1.keepTy (hka 3)).keepTy (hG.keepTy ht (by decide)), q1.grow hG (by rw [World.size_alloc]; omega), (h.p3.keepTy (hka 5)).keepTy (hG.keepTy ht (by decide)), q1.foot hG hf (fun k hk => .inr (.inl hk)), hb⟩⟩
set_option maxRecDepth 100000 in
theorem Aps.grow3 (h : Aps w w0 U1 U2 U3 n1 n2 n3 D1 D2 D3 a c d i1 i2 i3 wr) (x : Int) (hl : n3 + i3 + 1 ≤ 4398046511104) :
    ∃ d' w', (Builtin.append_ #[46, 46] 46 #[d, .slice (some ⟨wr.heap.size, 0, none⟩) 1 1]).run Tryd.prog (wr.alloc (.cells #[.int .u8 x] 5)) = .ok d' w' ∧ Aps w w0 U1 U2 U3 n1 n2 n3 D1 D2 D3 a c d' i1 i2 (i3 + 1) w' := by
  obtain ⟨i0, hi, hz0, hz1, hz2⟩ := info_parts info5
  have hka := fun t => keepTy_alloc' wr (.cells #[.int .u8 x] 5) t
  have q1 := h.p3.keepTy (hka 5)
  obtain ⟨tl, ht⟩ := q1.tail
  have hz := h.foot.size
  have hb := h.base
  have hf := h.foot.keep ((Below.refl wr.heap.size wr).alloc (Nat.le_refl _) (.cells #[.int .u8 x] 5))
  obtain ⟨g, cp, w', hr, hG⟩ := run_grow (wr.alloc (.cells #[.int .u8 x] 5)) w.heap.size 46 46 5 i0 _ 1 1 Tryd.underlying46 hi hz0 hz1 hz2 rfl (by decide) (by decide) d (n3 + i3) (D3 ++ tl) ht ⟨wr.heap.size, 0, none⟩ 1 [.int .u8 x] rfl (news_at (fr := (0, 0)) (heap_new rfl _)) (fun u hu => by rw [List.mem_singleton.1 hu]; rfl) hl (by rw [World.size_alloc]; omega)
  exact ⟨_, w', hr, ⟨(h.p1.keepTy (hka 3)).keepTy (hG.keepTy ht (by decide)), (h.p2.keepTy (hka 43)).keepTy (hG.keepTy ht (by decide)), q1.grow hG (by rw [World.size_alloc]; omega), q1.foot hG hf (fun k hk => .inr (.inr hk)), hb⟩⟩
end
theorem own_type {B e sz k : Nat} {wq : World} {v : Value} {xs : List Value} (h : wq.ownsRow B e sz v k xs) {q : Nat} (hq : v.ownBlock = some q) : ∃ cur : Array Value, wq.heap[q]? = some (.cells cur e (0, 0)) := by
  rcases h.2 with ⟨rfl, _⟩ | ⟨g, cap, cur, rfl, _, hh, _⟩
  · cases hq
  · simp only [Value.ownBlock, Option.some.injEq] at hq
    subst hq
    exact ⟨cur, hh⟩
/-- behind the growing -/
theorem Tot.after {w0 : World} {k i1 i2 i3 : Nat} {a c d : Value} (h : Tot w S g cap n m v1 v2 v3 xs1 xs2 xs3 A1 A2 A3 V1 V2 V3 C1 C2 C3 K w0) (hk : k < K) (ha : Aps w w0 (V1 k) (V2 k) (V3 k) xs1.length xs2.length xs3.length (C1 k) (C2 k) (C3 k) a c d i1 i2 i3 wr) :
    Tot w S g cap n m v1 v2 v3 xs1 xs2 xs3 A1 A2 A3 V1 V2 V3 C1 C2 C3 K wr := by
  have r1 := h.t1.row k hk
  have r2 := h.t2.row k hk
  have r3 := h.t3.row k hk
  have hf := ha.foot
  have key : ∀ (q : Nat) (cs : Array Value) (t : TypeId) (fr : Nat × Nat), w0.heap[q]? = some (.cells cs t fr) → (t = 3 → (V1 k).ownBlock ≠ some q) → (t = 43 → (V2 k).ownBlock ≠ some q) → (t = 5 → (V3 k).ownBlock ≠ some q) → wr.heap[q]? = w0.heap[q]? := by
    intro q cs t fr hq h1 h2 h3
    refine hf.block q (heap_lt hq) ?_
    rintro (e | e | e)
    · obtain ⟨cur, hc⟩ := own_type r1 e
      rw [hc] at hq
      simp only [Option.some.injEq, Obj.cells.injEq] at hq
      exact h1 hq.2.1.symm e
    · obtain ⟨cur, hc⟩ := own_type r2 e
      rw [hc] at hq
      simp only [Option.some.injEq, Obj.cells.injEq] at hq
      exact h2 hq.2.1.symm e
    · obtain ⟨cur, hc⟩ := own_type r3 e
      rw [hc] at hq
      simp only [Option.some.injEq, Obj.cells.injEq] at hq
      exact h3 hq.2.1.symm e
  refine ⟨?_, Nat.le_trans h.base hf.size, h.below.trans (hf.below (fun q hq => ?_) h.base), ?_, ?_, ?_, h.ge⟩
  · obtain ⟨cur, k1, _⟩ := h.set.ws
    refine h.set.same ?_ ?_
    · exact key _ _ _ _ h.set.hd (fun e => absurd e (by decide)) (fun e => absurd e (by decide)) (fun e => absurd e (by decide))
    · exact key _ _ _ _ k1 (fun e => absurd e (by decide)) (fun e => absurd e (by decide)) (fun e => absurd e (by decide))
  · rcases hq with e | e | e
    · exact (World.ownsRow.lt r1 q e).1
    · exact (World.ownsRow.lt r2 q e).1
    · exact (World.ownsRow.lt r3 q e).1
  · refine h.t1.foot hk (fun q cs t fr hq ht hne => key q cs t fr hq (fun _ => hne) ?_ ?_) ha.p1.orig (by decide)
    · rcases ht with rfl | rfl <;> exact fun e => absurd e (by decide)
    · rcases ht with rfl | rfl <;> exact fun e => absurd e (by decide)
  · refine h.t2.foot hk (fun q cs t fr hq ht hne => key q cs t fr hq ?_ (fun _ => hne) ?_) ha.p2.orig (by decide)
    · rcases ht with rfl | rfl <;> exact fun e => absurd e (by decide)
    · rcases ht with rfl | rfl <;> exact fun e => absurd e (by decide)
  · refine h.t3.foot hk (fun q cs t fr hq ht hne => key q cs t fr hq ?_ ?_ (fun _ => hne)) ha.p3.orig (by decide)
    · rcases ht with rfl | rfl <;> exact fun e => absurd e (by decide)
    · rcases ht with rfl | rfl <;> exact fun e => absurd e (by decide)
end
end Go.Proofs.YtmkbbekeimnajaaDoor
