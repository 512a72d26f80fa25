/- texts of this proof, one behind the other: Rf Ra Al It Si -/
import Derived.Test.YtmkbbekeimnajaaDoorMPlays0
import Derived.Test.YtmkbbekeimnajaaDoorMPlays1
import Derived.Test.YtmkbbekeimnajaaDoorMPlays2
import Derived.Test.YtmkbbekeimnajaaDoorMPlays3
import Derived.Test.YtmkbbekeimnajaaDoorMPlays4
import Derived.Test.YtmkbbekeimnajaaDoorMPlays5
import Derived.Test.YtmkbbekeimnajaaDoorMPlays6
import Derived.Test.YtmkbbekeimnajaaDoorMPlays7
import Derived.Test.YtmkbbekeimnajaaDoorMPlays8
import Derived.Test.YtmkbbekeimnajaaDoorMPlays9
import Derived.Test.YtmkbbekeimnajaaDoorMPlays10
import Derived.Test.YtmkbbekeimnajaaDoorMPlays11
import Derived.Test.YtmkbbekeimnajaaDoorMPlays12
import Derived.Test.YtmkbbekeimnajaaDoorMPlays13
import Derived.Test.YtmkbbekeimnajaaDoorMPlays14
import Derived.RangeFuncNested
import Derived.RangeFuncBound
import Derived.RangeFuncBox
import Derived.RangeFuncLeaves
import Derived.RangeFuncCalls
import Derived.Shelf.Abstract
import Derived.Shelf.RegionOpen
import Derived.OwnWalkIn
import Derived.TacticsInMore
import Derived.LoopNIn
import Derived.LoopIn
/-! Rf: A range over a function whose iterator also tells what lies in memory at what it hands over; plain, for any program. -/
namespace Go.Proofs.YtmkbbekeimnajaaDoor
open Go.RowKit
variable {F : Fence} {n : Nat} {P : Program}

/-- the blocks of S lie as they lay -/
structure Same (S : Nat → Prop) (A C : World) : Prop where
  size : A.heap.size ≤ C.heap.size
  same : ∀ (k : Nat) (o : Obj), S k → A.heap[k]? = some o → C.heap[k]? = some o
theorem Same.refl (S : Nat → Prop) (A : World) : Same S A A := ⟨Nat.le_refl _, fun _ _ _ h => h⟩
theorem Same.trans {S : Nat → Prop} {A C D : World} (h : Same S A C) (k : Same S C D) : Same S A D := ⟨Nat.le_trans h.size k.size, fun i o hi ho => k.same i o hi (h.same i o hi ho)⟩
theorem same_below {S : Nat → Prop} {A C : World} (h : Below A.heap.size A C) : Same S A C := ⟨h.size, fun k _ _ hk => (h.block k (Array.getElem?_eq_some_iff.1 hk).1).trans hk⟩
theorem same_under {S : Nat → Prop} {B : Nat} {A C : World} (h : Below B A C) (hS : ∀ k, S k → k < B) : Same S A C := ⟨h.size, fun k _ hk ho => (h.block k (hS k hk)).trans ho⟩
theorem same_cell {S : Nat → Prop} {A C : World} (h : Same S A C) {p : Addr} {v : Value} (hp : S p.block) (hv : A.cell? p = some v) : C.cell? p = some v := by
  obtain ⟨o, ho, _⟩ := cells_of_cell hv
  exact (World.cell?_of_block ((h.same _ _ hp ho).trans ho.symm)).trans hv

/-- THE ITERATOR: between two rounds it leaves all that lay there (J, Jx abide new blocks); what it hands over is 'Ok', told of the world behind the round ahead (A) and of this one (C); a round keeps the blocks of S. -/
def Tells {α : Type} (F : Fence) (n : Nat) (P : Program) (gf : Nat) (lb : Array Value) (encs : α → Array Value) (Ok : World → α → World → Prop) (Sa Sp : List α → Prop) (S : Nat → Prop) (w : World) : Prop :=
  ∀ (l : Nat) (J Jx : List α → World → Prop) (W : World), Below w.heap.size w W → (∀ s A C, J s A → Below A.heap.size A C → J s C) → (∀ s A C, Jx s A → Below A.heap.size A C → Jx s C) →
    (∀ pre x A C, J pre A → Below A.heap.size A C → Ok A x C → YieldAt F (n - 1) P l (encs x) C fun e C' => (e = .returned (.bool true) ∧ J (pre ++ [x]) C' ∧ Same S C C') ∨ (e = .returned (.bool false) ∧ Jx (pre ++ [x]) C')) →
    J [] W → CallsIn F n P gf (#[.func (.yield l) #[] #[]] ++ lb) W fun e W' => (∃ v, e = .returned v) ∧ ((∃ xs, Sa xs ∧ J xs W') ∨ (∃ pre, Sp pre ∧ Jx pre W'))

theorem ownFrom_later {β : Type} {B : Nat} {I : β → World → Prop} (h : OwnFrom B I) {s : β} {A C : World} (hs : I s A) (hb : Below A.heap.size A C) : I s C :=
  h s A C none hs (grown_of_below hb) (fun _ e => by cases e)

/-- THE LOOP -/
theorem range_told {α : Type} {g : Operand} {ps : Array Tmp} {assign body : Code} {Q : Exit → Act → World → Prop} {a : Act} {w : World}
    (hro : F.round = none) (h1 : 1 ≤ n) {gf : Nat} {lb : Array Value} (hg : a.eval g = .func (.func gf) #[] lb) (hFg : F.fn gf) (eg : ∀ args w, (callFunc gf args).run P w = .ok (.enter gf args) w)
    {encs : α → Array Value} {Ok : World → α → World → Prop} {Sa Sp : List α → Prop} {S : Nat → Prop} (hseq : Tells F (n - 1) P gf lb encs Ok Sa Sp S w) (hB : ∀ k, S k → k < w.heap.size) (hps : ∀ x, (encs x).size = ps.size)
    (I : List α → World → Prop) (Ix : Code → List α → World → Prop) (T : List α → α → Act → World → Prop) (hI : OwnFrom w.heap.size I) (hIx : ∀ c, OwnFrom w.heap.size (Ix c)) (hT : ∀ a', OwnFrom w.heap.size (fun (s : List α × α) W => T s.1 s.2 a' W)) (h0 : I [] w)
    (hassign : ∀ (l : Nat) (pre : List α) (x : α) (A C : World) (K : Act → World → Prop), I pre A → Below A.heap.size A C → Ok A x C → w.heap.size ≤ A.heap.size → (∀ a' C', KeepsFrom w.heap.size C C' → Same S C C' → T pre x a' C' → K a' C') →
      assign.wpIn (F.inRound l) (n - 1 - 1) P (Exit.then K (fun _ _ _ => False)) { tmps := (ps.zip (encs x)).foldl (fun t (p, v) => t.setIfInBounds p v) a.tmps, defers := [] } C)
    (hbody : ∀ (l : Nat) (pre : List α) (x : α) (a' : Act) (W : World), T pre x a' W → body.wpIn (F.inRound l) (n - 1 - 1) P (ownPostG w.heap.size (Same S) I Ix (pre ++ [x]) W) a' W)
    (hdone : ∀ (D : Nat) (xs : List α) (W : World), w.heap.size ≤ D → Sa xs → I xs W → W.heap[D]? = some (.deferred (some [])) → Q .normal { a with defers := { target := .collected D, args := #[] } :: a.defers } W)
    (hstop : ∀ (D : Nat) (c : Code) (pre : List α) (W : World), w.heap.size ≤ D → Sp pre → Ix c pre W → W.heap[D]? = some (.deferred (some [])) → c.wpIn F n P Q { a with defers := { target := .collected D, args := #[] } :: a.defers } W) :
    (Code.rangeFunc g ps assign body).wpIn F n P Q a w := by
  refine wpIn_rangeFunc fun fn hfn => ?_
  rw [hro]
  have book : ∃ R : LoopState → Option Code → Loop, ∀ st pe, R st pe = { state := st, pending := pe, fn := fn, tmps := a.tmps, params := ps, assign := assign, body := body, defers := w.heap.size } := ⟨_, fun _ _ => rfl⟩
  obtain ⟨R, hR⟩ := book
  have hlaid := run_enterLoop_outer (P := P) (w := w) fn a.tmps ps assign body
  rw [← hR] at hlaid
  have hd1 : ((w.alloc (.deferred (some []))).alloc (.loop (R .ready none))).heap[w.heap.size]? = some (.deferred (some [])) := (Below.heap_alloc _ _ _ (by simp)).trans (World.alloc_heap_new w _)
  have hl1 : ((w.alloc (.deferred (some []))).alloc (.loop (R .ready none))).heap[w.heap.size + 1]? = some (.loop (R .ready none)) := by
    have h := World.alloc_heap_new (w.alloc (.deferred (some []))) (.loop (R .ready none))
    rwa [World.size_alloc] at h
  have hi1 := hI.alloc (.loop (R .ready none)) (hI.alloc (.deferred (some [])) h0)
  have hb1 := ((Below.refl w.heap.size w).alloc (Nat.le_refl _) (.deferred (some []))).alloc (by simp) (.loop (R .ready none))
  have hz1 : w.heap.size ≤ ((w.alloc (.deferred (some []))).alloc (.loop (R .ready none))).heap.size := hb1.size
  generalize (w.alloc (.deferred (some []))).alloc (.loop (R .ready none)) = W1 at hlaid hd1 hl1 hi1 hb1 hz1
  refine ⟨w.heap.size + 1, [{ target := .collected w.heap.size, args := #[] }], W1, { target := .fn (.func gf) lb, args := #[.func (.yield (w.heap.size + 1)) #[] #[]] }, W1, gf, #[.func (.yield (w.heap.size + 1)) #[] #[]] ++ lb, W1, hlaid, ?_, ?_, ?_, fun _ => h1, ?_⟩
  · simp only [resolve, hg]
    simp [go_sem]
  · intro f' hf'
    simp [Target.leads] at hf'
    subst hf'
    exact hFg
  · simp [invoke, go_sem, eg]
  -- the books: the record and the block for deferred calls
  have kept : ∀ {X Y : World} {o : Obj} {k : Nat}, Below X.heap.size X Y → X.heap[k]? = some o → Y.heap[k]? = some o := fun hb hk => (hb.block _ (Array.getElem?_eq_some_iff.1 hk).1).trans hk
  have turned : ∀ {X : World} {r : Loop} {o' : Obj}, X.heap[w.heap.size + 1]? = some (.loop r) → Same S X (X.putObj (w.heap.size + 1) o') := fun {X r o'} h =>
    ⟨(grownBy_putObj' X (w.heap.size + 1) o').size, fun k o hk ho => (World.putObj_heap_other (fun e => by have := hB k hk; omega)).trans ho⟩
  refine (hseq (w.heap.size + 1)
    (fun pre W => I pre W ∧ W.heap[w.heap.size + 1]? = some (.loop (R .ready none)) ∧ W.heap[w.heap.size]? = some (.deferred (some [])))
    (fun pre W => ∃ c, Ix c pre W ∧ W.heap[w.heap.size + 1]? = some (.loop (R .done (some c))) ∧ W.heap[w.heap.size]? = some (.deferred (some [])))
    W1 hb1
    (fun s A C h hb => ⟨ownFrom_later hI h.1 hb, kept hb h.2.1, kept hb h.2.2⟩)
    (fun s A C h hb => by
      obtain ⟨c, hc, h2, h3⟩ := h
      exact ⟨c, ownFrom_later (hIx c) hc hb, kept hb h2, kept hb h3⟩)
    ?_ ⟨hi1, hl1, hd1⟩).mono ?_
  · rintro pre x A C ⟨hi, hl, hd⟩ hb hok
    have hzA : w.heap.size ≤ A.heap.size := by have := (Array.getElem?_eq_some_iff.1 hd).1; omega
    have hlC := kept hb hl
    have hdC := kept hb hd
    have hy := run_yield (P := P) (args := encs x) hlC (by rw [hR]; exact hps x)
    rw [hR] at hy
    refine ⟨fn, _, assign, body, hy, roundIn_of_wpIn hfn (hassign _ pre x A C _ hi hb hok hzA fun a' C2 hk2 hb2 ht => ?_)⟩
    have hl2 := hk2.same _ _ (by omega) hlC rfl
    have hd2 := hk2.same _ _ (Nat.le_refl _) hdC rfl
    have hlt := (Array.getElem?_eq_some_iff.1 hl2).1
    refine ⟨_, run_beginRound hl2 (by rw [hR]), ?_⟩
    have hbusy : (C2.putObj (w.heap.size + 1) (.loop { R .ready none with state := .busy })).heap[w.heap.size + 1]? = some (.loop { R .ready none with state := .busy }) := World.putObj_heap_same hlt
    have hd3 : (C2.putObj (w.heap.size + 1) (.loop { R .ready none with state := .busy })).heap[w.heap.size]? = some (.deferred (some [])) := (World.putObj_heap_other (by omega)).trans hd2
    have hb3 := turned (o' := .loop { R .ready none with state := .busy }) hl2
    have ht3 := (hT a').putObj (s := (pre, x)) (.loop { R .ready none with state := .busy }) ht (l := w.heap.size + 1) (by omega) hl2 rfl
    generalize C2.putObj (w.heap.size + 1) (.loop { R .ready none with state := .busy }) = C3 at hbusy hd3 hb3 ht3
    have close : ∀ (j : Option Code) (C4 : World), KeepsFrom w.heap.size C3 C4 → ∃ C5, (Instr.endRound (w.heap.size + 1) j).run P C4 = .ok (.bool j.isNone) C5 ∧ C5 = C4.putObj (w.heap.size + 1) (.loop (R (if j.isNone then .ready else .done) j)) ∧
        C4.heap[w.heap.size + 1]? = some (.loop { R .ready none with state := .busy }) ∧ C5.heap[w.heap.size + 1]? = some (.loop (R (if j.isNone then .ready else .done) j)) ∧ C5.heap[w.heap.size]? = some (.deferred (some [])) := by
      intro j C4 hk4
      have hl4 := hk4.same _ _ (by omega) hbusy rfl
      have h := run_endRound (P := P) j hl4
      rw [hR] at h
      exact ⟨_, h, by rw [hR], hl4, by rw [hR]; exact World.putObj_heap_same (Array.getElem?_eq_some_iff.1 hl4).1, (World.putObj_heap_other (by omega)).trans (hk4.same _ _ (Nat.le_refl _) hd3 rfl)⟩
    refine wpIn_mono (hbody _ pre x a' _ ht3) ?_
    intro e a4 C4 hp
    match e, hp with
    | .normal, ⟨hk4, hb4, hi4⟩ =>
      obtain ⟨C5, hr, rfl, h4, h5, h6⟩ := close none C4 hk4
      exact ⟨_, _, hr, .inl ⟨rfl, ⟨hI.putObj _ hi4 (by omega) h4 rfl, h5, h6⟩, hb2.trans (hb3.trans (hb4.trans (turned h4)))⟩⟩
    | .ret, ⟨hk4, hi4⟩ =>
      obtain ⟨C5, hr, rfl, h4, h5, h6⟩ := close (some .ret) C4 hk4
      exact ⟨_, _, hr, .inr ⟨rfl, .ret, (hIx _).putObj _ hi4 (by omega) h4 rfl, h5, h6⟩⟩
    | .exit id, ⟨hk4, hi4⟩ =>
      obtain ⟨C5, hr, rfl, h4, h5, h6⟩ := close (some (.exit id)) C4 hk4
      exact ⟨_, _, hr, .inr ⟨rfl, .exit id, (hIx _).putObj _ hi4 (by omega) h4 rfl, h5, h6⟩⟩
    | .goto t, ⟨hk4, hi4⟩ =>
      obtain ⟨C5, hr, rfl, h4, h5, h6⟩ := close (some (.goto t)) C4 hk4
      exact ⟨_, _, hr, .inr ⟨rfl, .goto t, (hIx _).putObj _ hi4 (by omega) h4 rfl, h5, h6⟩⟩
  · rintro e W2 ⟨⟨v, rfl⟩, ⟨xs, hS, hi, hl, hd⟩ | ⟨pre, hS, c, hi, hl, hd⟩⟩
    · have h := run_endLoop (P := P) hl (by rw [hR]; simp)
      rw [hR] at h
      exact ⟨none, _, h, hdone _ xs _ (Nat.le_refl _) hS (hI.putObj _ hi (by omega) hl rfl) ((World.putObj_heap_other (by omega)).trans hd)⟩
    · have h := run_endLoop (P := P) hl (by rw [hR]; simp)
      rw [hR] at h
      exact ⟨some c, _, h, hstop _ c pre _ (Nat.le_refl _) hS ((hIx c).putObj _ hi (by omega) hl rfl) ((World.putObj_heap_other (by omega)).trans hd)⟩

/-- THE ITERATOR: between two rounds it leaves all that lay there (J, Jx abide new blocks); what it hands over is 'Ok', told of the world behind the round ahead (A) and of this one (C); a round keeps the blocks of S. -/
def TellsAt {α : Type} (F : Fence) (n : Nat) (P : Program) (gf : Nat) (lb : Array Value) (encs : α → Array Value) (Ok : List α → World → α → World → Prop) (Sa Sp : List α → Prop) (S : Nat → Prop) (w : World) : Prop :=
  ∀ (l : Nat) (J Jx : List α → World → Prop) (W : World), Below w.heap.size w W → (∀ s A C, J s A → Below A.heap.size A C → J s C) → (∀ s A C, Jx s A → Below A.heap.size A C → Jx s C) →
    (∀ pre x A C, J pre A → Below A.heap.size A C → Ok pre A x C → YieldAt F (n - 1) P l (encs x) C fun e C' => (e = .returned (.bool true) ∧ J (pre ++ [x]) C' ∧ Same S C C') ∨ (e = .returned (.bool false) ∧ Jx (pre ++ [x]) C')) →
    J [] W → CallsIn F n P gf (#[.func (.yield l) #[] #[]] ++ lb) W fun e W' => (∃ v, e = .returned v) ∧ ((∃ xs, Sa xs ∧ J xs W') ∨ (∃ pre, Sp pre ∧ Jx pre W'))

/-- THE LOOP -/
theorem range_told_at {α : Type} {g : Operand} {ps : Array Tmp} {assign body : Code} {Q : Exit → Act → World → Prop} {a : Act} {w : World}
    (hro : F.round = none) (h1 : 1 ≤ n) {gf : Nat} {lb : Array Value} (hg : a.eval g = .func (.func gf) #[] lb) (hFg : F.fn gf) (eg : ∀ args w, (callFunc gf args).run P w = .ok (.enter gf args) w)
    {encs : α → Array Value} {Ok : List α → World → α → World → Prop} {Sa Sp : List α → Prop} {S : Nat → Prop} (hseq : TellsAt F (n - 1) P gf lb encs Ok Sa Sp S w) (hB : ∀ k, S k → k < w.heap.size) (hps : ∀ x, (encs x).size = ps.size)
    (I : List α → World → Prop) (Ix : Code → List α → World → Prop) (T : List α → α → Act → World → Prop) (hI : OwnFrom w.heap.size I) (hIx : ∀ c, OwnFrom w.heap.size (Ix c)) (hT : ∀ a', OwnFrom w.heap.size (fun (s : List α × α) W => T s.1 s.2 a' W)) (h0 : I [] w)
    (hassign : ∀ (l : Nat) (pre : List α) (x : α) (A C : World) (K : Act → World → Prop), I pre A → Below A.heap.size A C → Ok pre A x C → w.heap.size ≤ A.heap.size → (∀ a' C', KeepsFrom w.heap.size C C' → Same S C C' → T pre x a' C' → K a' C') →
      assign.wpIn (F.inRound l) (n - 1 - 1) P (Exit.then K (fun _ _ _ => False)) { tmps := (ps.zip (encs x)).foldl (fun t (p, v) => t.setIfInBounds p v) a.tmps, defers := [] } C)
    (hbody : ∀ (l : Nat) (pre : List α) (x : α) (a' : Act) (W : World), T pre x a' W → body.wpIn (F.inRound l) (n - 1 - 1) P (ownPostG w.heap.size (Same S) I Ix (pre ++ [x]) W) a' W)
    (hdone : ∀ (D : Nat) (xs : List α) (W : World), w.heap.size ≤ D → Sa xs → I xs W → W.heap[D]? = some (.deferred (some [])) → Q .normal { a with defers := { target := .collected D, args := #[] } :: a.defers } W)
    (hstop : ∀ (D : Nat) (c : Code) (pre : List α) (W : World), w.heap.size ≤ D → Sp pre → Ix c pre W → W.heap[D]? = some (.deferred (some [])) → c.wpIn F n P Q { a with defers := { target := .collected D, args := #[] } :: a.defers } W) :
    (Code.rangeFunc g ps assign body).wpIn F n P Q a w := by
  refine wpIn_rangeFunc fun fn hfn => ?_
  rw [hro]
  have book : ∃ R : LoopState → Option Code → Loop, ∀ st pe, R st pe = { state := st, pending := pe, fn := fn, tmps := a.tmps, params := ps, assign := assign, body := body, defers := w.heap.size } := ⟨_, fun _ _ => rfl⟩
  obtain ⟨R, hR⟩ := book
  have hlaid := run_enterLoop_outer (P := P) (w := w) fn a.tmps ps assign body
  rw [← hR] at hlaid
  have hd1 : ((w.alloc (.deferred (some []))).alloc (.loop (R .ready none))).heap[w.heap.size]? = some (.deferred (some [])) := (Below.heap_alloc _ _ _ (by simp)).trans (World.alloc_heap_new w _)
  have hl1 : ((w.alloc (.deferred (some []))).alloc (.loop (R .ready none))).heap[w.heap.size + 1]? = some (.loop (R .ready none)) := by
    have h := World.alloc_heap_new (w.alloc (.deferred (some []))) (.loop (R .ready none))
    rwa [World.size_alloc] at h
  have hi1 := hI.alloc (.loop (R .ready none)) (hI.alloc (.deferred (some [])) h0)
  have hb1 := ((Below.refl w.heap.size w).alloc (Nat.le_refl _) (.deferred (some []))).alloc (by simp) (.loop (R .ready none))
  have hz1 : w.heap.size ≤ ((w.alloc (.deferred (some []))).alloc (.loop (R .ready none))).heap.size := hb1.size
  generalize (w.alloc (.deferred (some []))).alloc (.loop (R .ready none)) = W1 at hlaid hd1 hl1 hi1 hb1 hz1
  refine ⟨w.heap.size + 1, [{ target := .collected w.heap.size, args := #[] }], W1, { target := .fn (.func gf) lb, args := #[.func (.yield (w.heap.size + 1)) #[] #[]] }, W1, gf, #[.func (.yield (w.heap.size + 1)) #[] #[]] ++ lb, W1, hlaid, ?_, ?_, ?_, fun _ => h1, ?_⟩
  · simp only [resolve, hg]
    simp [go_sem]
  · intro f' hf'
    simp [Target.leads] at hf'
    subst hf'
    exact hFg
  · simp [invoke, go_sem, eg]
  -- the books: the record and the block for deferred calls
  have kept : ∀ {X Y : World} {o : Obj} {k : Nat}, Below X.heap.size X Y → X.heap[k]? = some o → Y.heap[k]? = some o := fun hb hk => (hb.block _ (Array.getElem?_eq_some_iff.1 hk).1).trans hk
  have turned : ∀ {X : World} {r : Loop} {o' : Obj}, X.heap[w.heap.size + 1]? = some (.loop r) → Same S X (X.putObj (w.heap.size + 1) o') := fun {X r o'} h =>
    ⟨(grownBy_putObj' X (w.heap.size + 1) o').size, fun k o hk ho => (World.putObj_heap_other (fun e => by have := hB k hk; omega)).trans ho⟩
  refine (hseq (w.heap.size + 1)
    (fun pre W => I pre W ∧ W.heap[w.heap.size + 1]? = some (.loop (R .ready none)) ∧ W.heap[w.heap.size]? = some (.deferred (some [])))
    (fun pre W => ∃ c, Ix c pre W ∧ W.heap[w.heap.size + 1]? = some (.loop (R .done (some c))) ∧ W.heap[w.heap.size]? = some (.deferred (some [])))
    W1 hb1
    (fun s A C h hb => ⟨ownFrom_later hI h.1 hb, kept hb h.2.1, kept hb h.2.2⟩)
    (fun s A C h hb => by
      obtain ⟨c, hc, h2, h3⟩ := h
      exact ⟨c, ownFrom_later (hIx c) hc hb, kept hb h2, kept hb h3⟩)
    ?_ ⟨hi1, hl1, hd1⟩).mono ?_
  · rintro pre x A C ⟨hi, hl, hd⟩ hb hok
    have hzA : w.heap.size ≤ A.heap.size := by have := (Array.getElem?_eq_some_iff.1 hd).1; omega
    have hlC := kept hb hl
    have hdC := kept hb hd
    have hy := run_yield (P := P) (args := encs x) hlC (by rw [hR]; exact hps x)
    rw [hR] at hy
    refine ⟨fn, _, assign, body, hy, roundIn_of_wpIn hfn (hassign _ pre x A C _ hi hb hok hzA fun a' C2 hk2 hb2 ht => ?_)⟩
    have hl2 := hk2.same _ _ (by omega) hlC rfl
    have hd2 := hk2.same _ _ (Nat.le_refl _) hdC rfl
    have hlt := (Array.getElem?_eq_some_iff.1 hl2).1
    refine ⟨_, run_beginRound hl2 (by rw [hR]), ?_⟩
    have hbusy : (C2.putObj (w.heap.size + 1) (.loop { R .ready none with state := .busy })).heap[w.heap.size + 1]? = some (.loop { R .ready none with state := .busy }) := World.putObj_heap_same hlt
    have hd3 : (C2.putObj (w.heap.size + 1) (.loop { R .ready none with state := .busy })).heap[w.heap.size]? = some (.deferred (some [])) := (World.putObj_heap_other (by omega)).trans hd2
    have hb3 := turned (o' := .loop { R .ready none with state := .busy }) hl2
    have ht3 := (hT a').putObj (s := (pre, x)) (.loop { R .ready none with state := .busy }) ht (l := w.heap.size + 1) (by omega) hl2 rfl
    generalize C2.putObj (w.heap.size + 1) (.loop { R .ready none with state := .busy }) = C3 at hbusy hd3 hb3 ht3
    have close : ∀ (j : Option Code) (C4 : World), KeepsFrom w.heap.size C3 C4 → ∃ C5, (Instr.endRound (w.heap.size + 1) j).run P C4 = .ok (.bool j.isNone) C5 ∧ C5 = C4.putObj (w.heap.size + 1) (.loop (R (if j.isNone then .ready else .done) j)) ∧
        C4.heap[w.heap.size + 1]? = some (.loop { R .ready none with state := .busy }) ∧ C5.heap[w.heap.size + 1]? = some (.loop (R (if j.isNone then .ready else .done) j)) ∧ C5.heap[w.heap.size]? = some (.deferred (some [])) := by
      intro j C4 hk4
      have hl4 := hk4.same _ _ (by omega) hbusy rfl
      have h := run_endRound (P := P) j hl4
      rw [hR] at h
      exact ⟨_, h, by rw [hR], hl4, by rw [hR]; exact World.putObj_heap_same (Array.getElem?_eq_some_iff.1 hl4).1, (World.putObj_heap_other (by omega)).trans (hk4.same _ _ (Nat.le_refl _) hd3 rfl)⟩
    refine wpIn_mono (hbody _ pre x a' _ ht3) ?_
    intro e a4 C4 hp
    match e, hp with
    | .normal, ⟨hk4, hb4, hi4⟩ =>
      obtain ⟨C5, hr, rfl, h4, h5, h6⟩ := close none C4 hk4
      exact ⟨_, _, hr, .inl ⟨rfl, ⟨hI.putObj _ hi4 (by omega) h4 rfl, h5, h6⟩, hb2.trans (hb3.trans (hb4.trans (turned h4)))⟩⟩
    | .ret, ⟨hk4, hi4⟩ =>
      obtain ⟨C5, hr, rfl, h4, h5, h6⟩ := close (some .ret) C4 hk4
      exact ⟨_, _, hr, .inr ⟨rfl, .ret, (hIx _).putObj _ hi4 (by omega) h4 rfl, h5, h6⟩⟩
    | .exit id, ⟨hk4, hi4⟩ =>
      obtain ⟨C5, hr, rfl, h4, h5, h6⟩ := close (some (.exit id)) C4 hk4
      exact ⟨_, _, hr, .inr ⟨rfl, .exit id, (hIx _).putObj _ hi4 (by omega) h4 rfl, h5, h6⟩⟩
    | .goto t, ⟨hk4, hi4⟩ =>
      obtain ⟨C5, hr, rfl, h4, h5, h6⟩ := close (some (.goto t)) C4 hk4
      exact ⟨_, _, hr, .inr ⟨rfl, .goto t, (hIx _).putObj _ hi4 (by omega) h4 rfl, h5, h6⟩⟩
  · rintro e W2 ⟨⟨v, rfl⟩, ⟨xs, hS, hi, hl, hd⟩ | ⟨pre, hS, c, hi, hl, hd⟩⟩
    · have h := run_endLoop (P := P) hl (by rw [hR]; simp)
      rw [hR] at h
      exact ⟨none, _, h, hdone _ xs _ (Nat.le_refl _) hS (hI.putObj _ hi (by omega) hl rfl) ((World.putObj_heap_other (by omega)).trans hd)⟩
    · have h := run_endLoop (P := P) hl (by rw [hR]; simp)
      rw [hR] at h
      exact ⟨some c, _, h, hstop _ c pre _ (Nat.le_refl _) hS ((hIx c).putObj _ hi (by omega) hl rfl) ((World.putObj_heap_other (by omega)).trans hd)⟩
end Go.Proofs.YtmkbbekeimnajaaDoor

/-! Ra: A range over a function: the frame of a round named by what is handed over; plain, for any program. The marks that loops leave. -/
namespace Go.Proofs.YtmkbbekeimnajaaDoor
open Go.RowKit
variable {F : Fence} {n : Nat} {P : Program}
theorem ownFrom_and {β : Type} {B : Nat} {p : Prop} {I : β → World → Prop} (h : OwnFrom B I) : OwnFrom B (fun s W => p ∧ I s W) := fun s A C row hs hg hr => ⟨hs.1, h s A C row hs.2 hg hr⟩
theorem range_fr {α : Type} {g : Operand} {ps : Array Tmp} {assign body : Code} {Q : Exit → Act → World → Prop} {a : Act} {w : World} (fr : α → Act)
    (hro : F.round = none) (h1 : 1 ≤ n) {gf : Nat} {lb : Array Value} (hg : a.eval g = .func (.func gf) #[] lb) (hFg : F.fn gf) (eg : ∀ args w, (callFunc gf args).run P w = .ok (.enter gf args) w)
    {encs : α → Array Value} {Ok : List α → World → α → World → Prop} {Sa Sp : List α → Prop} {S : Nat → Prop} (hseq : TellsAt F (n - 1) P gf lb encs Ok Sa Sp S w) (hB : ∀ k, S k → k < w.heap.size) (hps : ∀ x, (encs x).size = ps.size)
    (I : List α → World → Prop) (Ix : Code → List α → World → Prop) (T : List α → α → World → Prop) (hI : OwnFrom w.heap.size I) (hIx : ∀ c, OwnFrom w.heap.size (Ix c)) (hT : OwnFrom w.heap.size (fun (s : List α × α) W => T s.1 s.2 W)) (h0 : I [] w)
    (hassign : ∀ (l : Nat) (pre : List α) (x : α) (A C : World) (K : Act → World → Prop), I pre A → Below A.heap.size A C → Ok pre A x C → w.heap.size ≤ A.heap.size → (∀ C', KeepsFrom w.heap.size C C' → Same S C C' → T pre x C' → K (fr x) C') →
      assign.wpIn (F.inRound l) (n - 1 - 1) P (Exit.then K (fun _ _ _ => False)) { tmps := (ps.zip (encs x)).foldl (fun t (p, v) => t.setIfInBounds p v) a.tmps, defers := [] } C)
    (hbody : ∀ (l : Nat) (pre : List α) (x : α) (W : World), T pre x W → body.wpIn (F.inRound l) (n - 1 - 1) P (ownPostG w.heap.size (Same S) I Ix (pre ++ [x]) W) (fr x) W)
    (hdone : ∀ (D : Nat) (xs : List α) (W : World), w.heap.size ≤ D → Sa xs → I xs W → W.heap[D]? = some (.deferred (some [])) → Q .normal { a with defers := { target := .collected D, args := #[] } :: a.defers } W)
    (hstop : ∀ (D : Nat) (c : Code) (pre : List α) (W : World), w.heap.size ≤ D → Sp pre → Ix c pre W → W.heap[D]? = some (.deferred (some [])) → c.wpIn F n P Q { a with defers := { target := .collected D, args := #[] } :: a.defers } W) :
    (Code.rangeFunc g ps assign body).wpIn F n P Q a w :=
  range_told_at hro h1 hg hFg eg hseq hB hps I Ix (fun pre x a' W => a' = fr x ∧ T pre x W) hI hIx (fun a' s A C row hs hg hr => ⟨hs.1, hT s A C row hs.2 hg hr⟩) h0
    (fun l pre x A C K hi hb hok hz hk => hassign l pre x A C K hi hb hok hz (fun C' h1 h2 h3 => hk _ C' h1 h2 ⟨rfl, h3⟩))
    (fun l pre x a' W ⟨e, ht⟩ => by subst e; exact hbody l pre x W ht) hdone hstop
/-- the ways out of a loop, its end and its break, meet -/
theorem range_join {α : Type} {g : Operand} {ps : Array Tmp} {assign body : Code} {b : Nat} {Q : Exit → Act → World → Prop} {a : Act} {w : World} (fr : α → Act)
    (hro : F.round = none) (h1 : 1 ≤ n) {gf : Nat} {lb : Array Value} (hg : a.eval g = .func (.func gf) #[] lb) (hFg : F.fn gf) (eg : ∀ args w, (callFunc gf args).run P w = .ok (.enter gf args) w)
    {encs : α → Array Value} {Ok : List α → World → α → World → Prop} {Sa Sp : List α → Prop} {S : Nat → Prop} (hseq : TellsAt F (n - 1) P gf lb encs Ok Sa Sp S w) (hB : ∀ k, S k → k < w.heap.size) (hps : ∀ x, (encs x).size = ps.size)
    (I : List α → World → Prop) (Ix : List α → World → Prop) (T : List α → α → World → Prop) (J : World → Prop) (hI : OwnFrom w.heap.size I) (hIx : OwnFrom w.heap.size Ix) (hT : OwnFrom w.heap.size (fun (s : List α × α) W => T s.1 s.2 W)) (h0 : I [] w)
    (hassign : ∀ (l : Nat) (pre : List α) (x : α) (A C : World) (K : Act → World → Prop), I pre A → Below A.heap.size A C → Ok pre A x C → w.heap.size ≤ A.heap.size → (∀ C', KeepsFrom w.heap.size C C' → Same S C C' → T pre x C' → K (fr x) C') →
      assign.wpIn (F.inRound l) (n - 1 - 1) P (Exit.then K (fun _ _ _ => False)) { tmps := (ps.zip (encs x)).foldl (fun t (p, v) => t.setIfInBounds p v) a.tmps, defers := [] } C)
    (hbody : ∀ (l : Nat) (pre : List α) (x : α) (W : World), T pre x W → body.wpIn (F.inRound l) (n - 1 - 1) P (ownPostG w.heap.size (Same S) I (fun c pre W => c = .exit b ∧ Ix pre W) (pre ++ [x]) W) (fr x) W)
    (hdone : ∀ (xs : List α) (W : World), Sa xs → I xs W → J W) (hstop : ∀ (pre : List α) (W : World), Sp pre → Ix pre W → J W)
    (hafter : ∀ (D : Nat) (W : World), w.heap.size ≤ D → J W → W.heap[D]? = some (.deferred (some [])) → Q .normal { a with defers := { target := .collected D, args := #[] } :: a.defers } W) :
    (Code.rangeFunc g ps assign body).wpIn F n P (Exit.inBlock b Q) a w :=
  range_fr fr hro h1 hg hFg eg hseq hB hps I (fun c pre W => c = .exit b ∧ Ix pre W) T hI (fun _ s A C row hs hg hr => ⟨hs.1, hIx s A C row hs.2 hg hr⟩) hT h0 hassign hbody
    (fun D xs W hD hs hi hd => hafter D W hD (hdone xs W hs hi) hd)
    (fun D c pre W hD hs hi hd => by
      obtain ⟨rfl, hx⟩ := hi
      refine wpIn_exit ?_
      simp only [Exit.inBlock, if_true]
      exact hafter D W hD (hstop pre W hs hx) hd)
def mk_ (D : Nat) : Deferred := { target := .collected D, args := #[] }
/-- the blocks of the marks: apart, new, no call in them -/
def Marks (W : World) (B : Nat) (Ds : List Nat) : Prop := Ds.Nodup ∧ ∀ D ∈ Ds, B ≤ D ∧ W.heap[D]? = some (.deferred (some []))
theorem marks_nil (W : World) (B : Nat) : Marks W B [] := ⟨List.nodup_nil, by simp⟩
def Past (W W' : World) (B : Nat) : Prop := Below B W W' ∧ ∀ (k : Nat) (cs : Array Value) (t : TypeId) (fr : Nat × Nat), W.heap[k]? = some (.cells cs t fr) → W'.heap[k]? = some (.cells cs t fr)
theorem leaves_marks {fn : Func} {tmps : Array Value} {R : Ending → World → Prop} {B : Nat} : ∀ (Ds : List Nat) (W : World), Marks W B Ds → B ≤ W.heap.size → (∀ W', Past W W' B → LeavesInM F n P fn tmps R [] .returning W') → LeavesInM F n P fn tmps R (Ds.map mk_) .returning W
  | [], W, _, _, h => h W ⟨Below.refl _ _, fun _ _ _ _ hk => hk⟩
  | D :: Ds, W, hM, hB, h => by
    obtain ⟨hnd, hall⟩ := hM
    obtain ⟨hBD, hD⟩ := hall D (by simp)
    have hg := grownBy_putObj' W D (.deferred none)
    refine ⟨by simp, .inl ⟨D, _, rfl, run_takeDeferred hD, ?_⟩⟩
    refine leaves_marks Ds _ ⟨(List.nodup_cons.1 hnd).2, fun D' hD' => ⟨(hall D' (by simp [hD'])).1, ?_⟩⟩ (Nat.le_trans hB hg.size) fun W' hp => h W' ⟨?_, fun k cs t fr hk => hp.2 k cs t fr ?_⟩
    · have hne : D' ≠ D := fun e => (List.nodup_cons.1 hnd).1 (e ▸ hD')
      exact (World.putObj_heap_other hne).trans (hall D' (by simp [hD'])).2
    · exact ((Below.refl B W).grown hg hB (fun k e => by cases e; exact hBD)).trans hp.1
    · refine (World.putObj_heap_other (fun e => ?_)).trans hk
      subst e
      rw [hk] at hD
      cases hD
end Go.Proofs.YtmkbbekeimnajaaDoor

/-! Al: what All hands out -/
namespace Go.Proofs.YtmkbbekeimnajaaDoor
open Go.RowKit Ds
set_option maxRecDepth 100000 in
set_option maxHeartbeats 2000000 in
theorem all_any (w : World) {S g cap n : Nat} {m : Nat → Bool} (h : SetAt w S g cap n m) :
    Calls Tryd.prog 14 #[.pointer (some ⟨S, 0, none⟩)] w fun e w' => ∃ c S2 g2 cap2, e = .returned (.func (.func 43) #[] #[.pointer (some ⟨c, 0, none⟩)]) ∧ w.heap.size ≤ c ∧ w.heap.size ≤ S2 ∧ w.heap.size ≤ g2 ∧
      w'.heap[c]? = some (.cells #[.pointer (some ⟨S2, 0, none⟩)] 24 (0, 0)) ∧ SetAt w' S2 g2 cap2 n m ∧ Below w.heap.size w w' := by
  have HS := hide h
  clear h
  go_enter Tryd.func14, Tryd.ntmps14
  go_wp2_with fail
  refine (clone_any w HS.out).mono ?_
  rintro e w2 ⟨S2, g2, cap2, rfl, h1, h2, hs2, hb2⟩
  have HS2 := hide hs2
  have HB2 := hide hb2
  have hz2 := hb2.size
  clear hs2 hb2
  go_wp2_with fail
  go_ret
  exact ⟨w2.heap.size, S2, g2, cap2, rfl, hz2, h1, h2, heap_new rfl _, HS2.out.keep ((Below.refl _ w2).alloc (Nat.le_refl _) _), HB2.out.alloc hz2 _⟩
end Go.Proofs.YtmkbbekeimnajaaDoor

/-! It: what the iterator of All tells -/
namespace Go.Proofs.YtmkbbekeimnajaaDoor
open Go.RowKit Ds
theorem set_same {S : Nat → Prop} {w w' : World} {A g cap n : Nat} {m : Nat → Bool} (h : SetAt w A g cap n m) (hs : Same S w w') (hA : S A) (hg : S g) : SetAt w' A g cap n m := by
  obtain ⟨cur, h1, h2, h3⟩ := h.ws
  exact ⟨hs.same _ _ hA h.hd, ⟨cur, hs.same _ _ hg h1, h2, h3⟩, h.cap, h.off, h.small⟩
theorem debr_same {S : Nat → Prop} {w w' : World} (h : DeBr w) (hs : Same S w w') (hS : S 15) : DeBr w' := fun j hj => same_cell hs hS (h j hj)
theorem wide_depth {n : Nat} : Fence.wide.depth.isSome = true → 1 ≤ n := fun h => by cases h
theorem mem_take {m : Nat → Bool} {n k x : Nat} (h : (Ds.mem m n)[k]? = some x) : (Ds.mem m n).take (k + 1) = (Ds.mem m n).take k ++ [x] := by
  rw [List.take_add_one, h]; rfl
def itEnc (x : Nat) : Array Value := #[.int .i64 (x : Nat)]
def itAt (ms : List Nat) (pre : List Nat) (_ : World) (x : Nat) (_ : World) : Prop := ms[pre.length]? = some x
set_option maxRecDepth 100000 in
set_option maxHeartbeats 4000000 in
theorem all_tells (S : Nat → Prop) (l0 c A g cap n : Nat) (m : Nat → Bool) (w : World) (hs : SetAt w A g cap n m) (hT : DeBr w) (hc : w.heap[c]? = some (.cells #[.pointer (some ⟨A, 0, none⟩)] 24 (0, 0)))
    (h15 : S 15) (hSc : S c) (hSA : S A) (hSg : S g) :
    TellsAt Fence.wide l0 Tryd.prog 43 #[.pointer (some ⟨c, 0, none⟩)] itEnc (itAt (Ds.mem m n)) (fun xs => xs = Ds.mem m n) (fun pre => ∃ k, k < cnt m n ∧ pre = (Ds.mem m n).take (k + 1)) S w := fun l J Jx W hW hJ hJx hY hst => by
  have hbW : Same S w W := same_below hW
  have hsm := hs.small
  have HS := hide hs
  have HT := hide hT
  have HC := hide hc
  have HY := hide hY
  have HJ := hide hJ
  have HBW := hide hbW
  have HST := hide hst
  clear hs hT hc hY hJ hbW hst hW
  refine callsIn_of_wp Tryd.func43 rfl trivial ?_ rfl
  simp only [Tryd.ntmps43, List.size_toArray, List.length_cons, List.length_nil, Nat.reduceAdd, Nat.reduceSub, Array.replicate_succ, Array.replicate_zero, List.push_toArray, List.append_toArray, List.nil_append, List.cons_append]
  have c0 := cell_of_one (HBW.out.same _ _ hSc HC.out)
  gi_wp2_with fail
  refine ⟨trivial, wide_depth, (callsIn_wide.2 (next_any W (set_same HS.out HBW.out hSA hSg) (debr_same HT.out HBW.out h15) 0)).mono ?_⟩
  rintro e W2 ⟨hno, rfl⟩
  obtain ⟨a, b, rfl, hat⟩ := next_at hno
  have HAT := hide (show AtK m n 0 a b from by simpa [cnt, Ds.mem] using hat)
  clear hno hat c0
  gi_wp2_with fail
  gi_loopw [3, 4] (fun a b wr => ∃ k, k ≤ cnt m n ∧ AtK m n k a b ∧ J ((Ds.mem m n).take k) wr ∧ Same S w wr) (fun a b _ => match b with | .bool true => cnt m n + 1 - cnt m ((intOf a).toNat + 1) | _ => 0)
  case atStart => exact ⟨0, Nat.zero_le _, HAT.out, HST.out, HBW.out⟩
  case round =>
    obtain ⟨k, hk, hat, hj, hb⟩ := hrel
    have HJr := hide hj
    have HB := hide hb
    have c0 := cell_of_one (HB.out.same _ _ hSc HC.out)
    clear hj hb HST HBW HAT
    unfold AtK at hat
    cases hx : (Ds.mem m n)[k]? with
    | none =>
      rw [hx] at hat
      obtain ⟨rfl, rfl⟩ := hat
      have hke : cnt m n ≤ k := List.getElem?_eq_none_iff.1 hx
      have hkk : k = cnt m n := by omega
      have HKK := hide hkk
      have HF := hide (show J (Ds.mem m n) wr from by
        have := HJr.out
        rw [HKK.out, List.take_of_length_le (by unfold cnt; exact Nat.le_refl _)] at this
        exact this)
      clear hx hkk hke
      gi_wp2_with fail
      go_end0
      exact ⟨⟨_, rfl⟩, .inl ⟨_, rfl, HF.out⟩⟩
    | some x =>
      rw [hx] at hat
      obtain ⟨rfl, rfl⟩ := hat
      obtain ⟨hxn, hc1, htk⟩ := mem_at hx
      have hkl : k < cnt m n := get_lt' hx
      obtain ⟨fn, tmps, assign, bdy, hy, hR⟩ := HY.out ((Ds.mem m n).take k) x wr wr HJr.out (Below.refl _ _) (by unfold itAt; rw [List.length_take, Nat.min_eq_left (by unfold cnt at hkl; omega)]; exact hx)
      have HRD := hide hR
      have HC1 := hide hc1
      have HX := hide (mem_take hx)
      dsimp only [itEnc] at hy
      clear hR hc1 hx htk
      gi_wp2_with fail
      refine ⟨wide_depth, HRD.out.mono ?_⟩
      rintro e W3 (⟨rfl, hJ3, hk3⟩ | ⟨rfl, hJx3⟩)
      · have HJ3 := hide (show J ((Ds.mem m n).take (k + 1)) W3 from by rw [HX.out]; exact hJ3)
        have HB3 := hide (HB.out.trans hk3)
        have c0 := cell_of_one (HB3.out.same _ _ hSc HC.out)
        have hwx : IntKind.i64.wrap ((x : Int) + 1) = (x : Int) + 1 := by rw [IntKind.wrap_i64]; omega
        clear hJ3 hk3 hy
        gi_wp2_with fail
        refine ⟨trivial, wide_depth, (callsIn_wide.2 (next_any W3 (set_same HS.out HB3.out hSA hSg) (debr_same HT.out HB3.out h15) ((x : Int) + 1))).mono ?_⟩
        rintro e W4 ⟨hno, rfl⟩
        obtain ⟨a, b, rfl, hat⟩ := next_at hno
        have HAT := hide (show AtK m n (k + 1) a b from by
          rw [show ((x : Int) + 1).toNat = x + 1 by omega, HC1.out] at hat
          exact hat)
        clear hno hat c0
        gi_wp2_with fail
        refine ⟨⟨k + 1, hkl, HAT.out, HJ3.out, HB3.out⟩, ?_⟩
        have h1 := HAT.out
        unfold AtK at h1
        simp only [intOf, Int.toNat_natCast, HC1.out]
        cases hx2 : (Ds.mem m n)[k + 1]? with
        | none =>
          rw [hx2] at h1
          obtain ⟨rfl, rfl⟩ := h1
          simp only []
          omega
        | some y =>
          rw [hx2] at h1
          obtain ⟨rfl, rfl⟩ := h1
          have := (mem_at hx2).2.1
          have h2 : k + 1 < cnt m n := get_lt' hx2
          simp only [Int.toNat_natCast, this]
          omega
      · have HJx3 := hide (show Jx ((Ds.mem m n).take (k + 1)) W3 from by rw [HX.out]; exact hJx3)
        clear hJx3 hy
        gi_wp2_with fail
        refine bodyPost_ret (results_none rfl _ _ _) rfl ?_
        exact ⟨⟨_, rfl⟩, .inr ⟨_, ⟨k, hkl, rfl⟩, HJx3.out⟩⟩
end Go.Proofs.YtmkbbekeimnajaaDoor

/-! Si: what stays over the rounds of DocsetIters -/
namespace Go.Proofs.YtmkbbekeimnajaaDoor
open Go.RowKit Ds
/-- all blocks of cells lie as they lay -/
def KeepC (X C : World) : Prop := ∀ (k : Nat) (cs : Array Value) (t : TypeId) (fr : Nat × Nat), X.heap[k]? = some (.cells cs t fr) → C.heap[k]? = some (.cells cs t fr)
theorem keepC_grown {X C : World} {row : Option Nat} (hg : X.grownBy C row) (hr : ∀ r, row = some r → ∃ o : Obj, X.heap[r]? = some o ∧ o.isCells = false) : KeepC X C := fun k cs t fr hk => by
  refine (hg.block k (heap_lt hk) (fun e => ?_)).trans hk
  obtain ⟨o, ho, hn⟩ := hr k e.symm
  rw [hk] at ho
  cases ho
  cases hn
theorem keepC_below {X C : World} (hb : Below X.heap.size X C) : KeepC X C := fun k _ _ _ hk => (hb.block k (heap_lt hk)).trans hk
theorem SetAt.keepC {X C : World} {S g cap n : Nat} {m : Nat → Bool} (h : SetAt X S g cap n m) (hk : KeepC X C) : SetAt C S g cap n m := by
  obtain ⟨cur, h1, h2, h3⟩ := h.ws
  exact ⟨hk _ _ _ _ h.hd, ⟨cur, hk _ _ _ _ h1, h2, h3⟩, h.cap, h.off, h.small⟩
structure Sit (w W1 X : World) (S g cap N b13 b8 at_ : Nat) : Prop where
  below : Below w.heap.size w X
  size : W1.heap.size ≤ X.heap.size
  rest : ∀ (k : Nat) (cs : Array Value) (t : TypeId) (fr : Nat × Nat), W1.heap[k]? = some (.cells cs t fr) → k ≠ S → k ≠ g → k ≠ b13 → k ≠ b8 → X.heap[k]? = some (.cells cs t fr)
  set : ∃ m, SetAt X S g cap N m
  idx : X.heap[b13]? = some (.cells #[.int .i64 (at_ : Nat)] 3 (0, 0))
  res : X.heap[b8]? = some (.cells #[.bool false] 4 (0, 0))
section
variable {w W1 X C : World} {S g cap N b13 b8 at_ : Nat}
theorem Sit.keepC (h : Sit w W1 X S g cap N b13 b8 at_) (hk : KeepC X C) (hb : Below w.heap.size X C) : Sit w W1 C S g cap N b13 b8 at_ :=
  ⟨h.below.trans hb, Nat.le_trans h.size hb.size, fun k cs t fr hx a b c d => hk _ _ _ _ (h.rest k cs t fr hx a b c d), let ⟨m, hm⟩ := h.set; ⟨m, hm.keepC hk⟩, hk _ _ _ _ h.idx, hk _ _ _ _ h.res⟩
theorem Sit.grown {row : Option Nat} (h : Sit w W1 X S g cap N b13 b8 at_) (hw : w.heap.size ≤ W1.heap.size) (hg : X.grownBy C row) (hr : ∀ r, row = some r → W1.heap.size ≤ r ∧ ∃ o : Obj, X.heap[r]? = some o ∧ o.isCells = false) : Sit w W1 C S g cap N b13 b8 at_ :=
  h.keepC (keepC_grown hg (fun r e => (hr r e).2)) ((Below.refl _ X).grown hg h.below.size (fun r e => Nat.le_trans hw (hr r e).1))
theorem Sit.later (h : Sit w W1 X S g cap N b13 b8 at_) (hb : Below X.heap.size X C) : Sit w W1 C S g cap N b13 b8 at_ :=
  h.keepC (keepC_below hb) (hb.mono h.below.size)
theorem Sit.drew (h : Sit w W1 X S g cap N b13 b8 at_) (q : Nat) : Sit w W1 (X.drewN q) S g cap N b13 b8 at_ := h.later (below_drewN (Below.refl _ _) q)
/-- the set has changed -/
theorem Sit.foot {m : Nat → Bool} (h : Sit w W1 X S g cap N b13 b8 at_) (hs : SetAt C S g cap N m) (hf : Foot X C (fun k => k = S ∨ k = g)) (hS : w.heap.size ≤ S) (hgg : w.heap.size ≤ g) (e1 : S ≠ b13) (e2 : S ≠ b8) (e3 : g ≠ b13) (e4 : g ≠ b8) : Sit w W1 C S g cap N b13 b8 at_ := by
  have kb : ∀ (k : Nat) (o : Obj), X.heap[k]? = some o → k ≠ S → k ≠ g → C.heap[k]? = some o := fun k o hk a b => (hf.block k (heap_lt hk) (fun h => h.elim a b)).trans hk
  exact ⟨h.below.trans (hf.below (fun k hk => by rcases hk with rfl | rfl <;> assumption) h.below.size), Nat.le_trans h.size hf.size, fun k cs t fr hx a b c d => kb k _ (h.rest k cs t fr hx a b c d) a b, ⟨m, hs⟩, kb _ _ h.idx e1.symm e3.symm, kb _ _ h.res e2.symm e4.symm⟩
/-- a step of the index -/
theorem Sit.step (h : Sit w W1 X S g cap N b13 b8 at_) (k : Nat) (e1 : S ≠ b13) (e3 : g ≠ b13) (e5 : b8 ≠ b13) (hw : w.heap.size ≤ b13) : Sit w W1 (X.setCell ⟨b13, 0, none⟩ (.int .i64 (k : Nat))) S g cap N b13 b8 k := by
  have kb : ∀ (i : Nat) (o : Obj), X.heap[i]? = some o → i ≠ b13 → (X.setCell ⟨b13, 0, none⟩ (.int .i64 (k : Nat))).heap[i]? = some o := fun i o hk a => heap_else hk a _
  obtain ⟨m, hs⟩ := h.set
  obtain ⟨cur, h1, h2, h3⟩ := hs.ws
  refine ⟨below_set h.below hw _, by rw [World.size_setCell]; exact h.size, fun i cs t fr hx a b c d => kb i _ (h.rest i cs t fr hx a b c d) c, ⟨m, kb _ _ hs.hd e1, ⟨cur, kb _ _ h1 e3, h2, h3⟩, hs.cap, hs.off, hs.small⟩, ?_, kb _ _ h.res e5⟩
  rw [heap_set h.idx]
  rfl
end
/-- Add and Remove, whatever the number -/
theorem add_is (w : World) {S g cap n : Nat} {m : Nat → Bool} (h : SetAt w S g cap n m) (i : Int) (a : Addr) (hE : ErrAt w 0 a) :
    Calls Tryd.prog 16 #[.pointer (some ⟨S, 0, none⟩), .int .i64 i] w fun e w' => (∃ v, e = .returned v) ∧ (∃ m', SetAt w' S g cap n m') ∧ Foot w w' (fun k => k = S ∨ k = g) := by
  by_cases hi : i < 0 ∨ n ≤ i
  · exact (add_out w h i hi a hE).mono fun e w' ⟨he, q, hq⟩ => ⟨⟨_, he⟩, ⟨m, by rw [hq]; exact h.keep (below_drewN (Below.refl _ _) q)⟩, by rw [hq]; exact (Foot.refl w _).drewN q⟩
  · obtain ⟨j, rfl⟩ := Int.eq_ofNat_of_zero_le (show 0 ≤ i by omega)
    by_cases hm : m j = true
    · exact (add_old w h j (by omega) hm).mono fun e w' ⟨he, hw⟩ => ⟨⟨_, he⟩, by subst hw; exact ⟨m, h⟩, by subst hw; exact Foot.refl w _⟩
    · exact (add_new w h j (by omega) (by simpa using hm)).mono fun e w' ⟨he, hs, hf⟩ => ⟨⟨_, he⟩, ⟨_, hs⟩, hf⟩
theorem rem_is (w : World) {S g cap n : Nat} {m : Nat → Bool} (h : SetAt w S g cap n m) (i : Int) (a : Addr) (hE : ErrAt w 0 a) :
    Calls Tryd.prog 15 #[.pointer (some ⟨S, 0, none⟩), .int .i64 i] w fun e w' => (∃ v, e = .returned v) ∧ (∃ m', SetAt w' S g cap n m') ∧ Foot w w' (fun k => k = S ∨ k = g) := by
  by_cases hi : i < 0 ∨ n ≤ i
  · exact (rem_out w h i hi a hE).mono fun e w' ⟨he, q, hq⟩ => ⟨⟨_, he⟩, ⟨m, by rw [hq]; exact h.keep (below_drewN (Below.refl _ _) q)⟩, by rw [hq]; exact (Foot.refl w _).drewN q⟩
  · obtain ⟨j, rfl⟩ := Int.eq_ofNat_of_zero_le (show 0 ≤ i by omega)
    by_cases hm : m j = true
    · exact (rem_new w h j (by omega) hm).mono fun e w' ⟨he, hs, hf⟩ => ⟨⟨_, he⟩, ⟨_, hs⟩, hf⟩
    · exact (rem_old w h j (by omega) (by simpa using hm)).mono fun e w' ⟨he, hw⟩ => ⟨⟨_, he⟩, by subst hw; exact ⟨m, h⟩, by subst hw; exact Foot.refl w _⟩
end Go.Proofs.YtmkbbekeimnajaaDoor
