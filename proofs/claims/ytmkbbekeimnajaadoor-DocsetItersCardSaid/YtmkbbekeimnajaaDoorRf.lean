/- A range over a function whose iterator also tells what lies in memory at what it hands over; plain, for any program. -/
import Derived.Test.YtmkbbekeimnajaaDoorBase
import Derived.RangeFuncNested
import Derived.RangeFuncBound
namespace Go.Proofs.YtmkbbekeimnajaaDoor
open Go.RowKit
variable {F : Fence} {n : Nat} {P : Program}

/-- the blocks of S lie as they lay -/
structure Same (S : Nat → Prop) (A C : World) : Prop where
  size : A.heap.size ≤ C.heap.size
  same : ∀ (k : Nat) (o : Obj), S k → A.heap[k]? = some o → C.heap[k]? = some o
theorem Same.refl (S : Nat → Prop) (A : World) : Same S A A := ⟨Nat.le_refl _, fun _ _ _ h => h⟩
theorem Same.trans {S : Nat → Prop} {A C D : World} (h : Same S A C) (k : Same S C D) : Same S A D := ⟨Nat.le_trans h.size k.size, fun i o hi ho => k.same i o hi (h.same i o hi ho)⟩
theorem same_below {S : Nat → Prop} {A C : World} (h : Below A.heap.size A C) : Same S A C := ⟨h.size, fun k _ _ hk => (h.block k (Array.getElem?_eq_some_iff.1 hk).1).trans hk⟩
theorem same_under {S : Nat → Prop} {B : Nat} {A C : World} (h : Below B A C) (hS : ∀ k, S k → k < B) : Same S A C := ⟨h.size, fun k _ hk ho => (h.block k (hS k hk)).trans ho⟩
theorem same_cell {S : Nat → Prop} {A C : World} (h : Same S A C) {p : Addr} {v : Value} (hp : S p.block) (hv : A.cell? p = some v) : C.cell? p = some v := by
  obtain ⟨o, ho, _⟩ := cells_of_cell hv
  exact (World.cell?_of_block ((h.same _ _ hp ho).trans ho.symm)).trans hv

/-- THE ITERATOR: between two rounds it leaves all that lay there (J, Jx abide new blocks); what it hands over is 'Ok', told of the world behind the round ahead (A) and of this one (C); a round keeps the blocks of S. -/
def Tells {α : Type} (F : Fence) (n : Nat) (P : Program) (gf : Nat) (lb : Array Value) (encs : α → Array Value) (Ok : World → α → World → Prop) (Sa Sp : List α → Prop) (S : Nat → Prop) (w : World) : Prop :=
  ∀ (l : Nat) (J Jx : List α → World → Prop) (W : World), Below w.heap.size w W → (∀ s A C, J s A → Below A.heap.size A C → J s C) → (∀ s A C, Jx s A → Below A.heap.size A C → Jx s C) →
    (∀ pre x A C, J pre A → Below A.heap.size A C → Ok A x C → YieldAt F (n - 1) P l (encs x) C fun e C' => (e = .returned (.bool true) ∧ J (pre ++ [x]) C' ∧ Same S C C') ∨ (e = .returned (.bool false) ∧ Jx (pre ++ [x]) C')) →
    J [] W → CallsIn F n P gf (#[.func (.yield l) #[] #[]] ++ lb) W fun e W' => (∃ v, e = .returned v) ∧ ((∃ xs, Sa xs ∧ J xs W') ∨ (∃ pre, Sp pre ∧ Jx pre W'))

theorem ownFrom_later {β : Type} {B : Nat} {I : β → World → Prop} (h : OwnFrom B I) {s : β} {A C : World} (hs : I s A) (hb : Below A.heap.size A C) : I s C :=
  h s A C none hs (grown_of_below hb) (fun _ e => by cases e)

/-- THE LOOP -/
theorem range_told {α : Type} {g : Operand} {ps : Array Tmp} {assign body : Code} {Q : Exit → Act → World → Prop} {a : Act} {w : World}
    (hro : F.round = none) (h1 : 1 ≤ n) {gf : Nat} {lb : Array Value} (hg : a.eval g = .func (.func gf) #[] lb) (hFg : F.fn gf) (eg : ∀ args w, (callFunc gf args).run P w = .ok (.enter gf args) w)
    {encs : α → Array Value} {Ok : World → α → World → Prop} {Sa Sp : List α → Prop} {S : Nat → Prop} (hseq : Tells F (n - 1) P gf lb encs Ok Sa Sp S w) (hB : ∀ k, S k → k < w.heap.size) (hps : ∀ x, (encs x).size = ps.size)
    (I : List α → World → Prop) (Ix : Code → List α → World → Prop) (T : List α → α → Act → World → Prop) (hI : OwnFrom w.heap.size I) (hIx : ∀ c, OwnFrom w.heap.size (Ix c)) (hT : ∀ a', OwnFrom w.heap.size (fun (s : List α × α) W => T s.1 s.2 a' W)) (h0 : I [] w)
    (hassign : ∀ (l : Nat) (pre : List α) (x : α) (A C : World) (K : Act → World → Prop), I pre A → Below A.heap.size A C → Ok A x C → w.heap.size ≤ A.heap.size → (∀ a' C', KeepsFrom w.heap.size C C' → Same S C C' → T pre x a' C' → K a' C') →
      assign.wpIn (F.inRound l) (n - 1 - 1) P (Exit.then K (fun _ _ _ => False)) { tmps := (ps.zip (encs x)).foldl (fun t (p, v) => t.setIfInBounds p v) a.tmps, defers := [] } C)
    (hbody : ∀ (l : Nat) (pre : List α) (x : α) (a' : Act) (W : World), T pre x a' W → body.wpIn (F.inRound l) (n - 1 - 1) P (ownPostG w.heap.size (Same S) I Ix (pre ++ [x]) W) a' W)
    (hdone : ∀ (D : Nat) (xs : List α) (W : World), w.heap.size ≤ D → Sa xs → I xs W → W.heap[D]? = some (.deferred (some [])) → Q .normal { a with defers := { target := .collected D, args := #[] } :: a.defers } W)
    (hstop : ∀ (D : Nat) (c : Code) (pre : List α) (W : World), w.heap.size ≤ D → Sp pre → Ix c pre W → W.heap[D]? = some (.deferred (some [])) → c.wpIn F n P Q { a with defers := { target := .collected D, args := #[] } :: a.defers } W) :
    (Code.rangeFunc g ps assign body).wpIn F n P Q a w := by
  refine wpIn_rangeFunc fun fn hfn => ?_
  rw [hro]
  have book : ∃ R : LoopState → Option Code → Loop, ∀ st pe, R st pe = { state := st, pending := pe, fn := fn, tmps := a.tmps, params := ps, assign := assign, body := body, defers := w.heap.size } := ⟨_, fun _ _ => rfl⟩
  obtain ⟨R, hR⟩ := book
  have hlaid := run_enterLoop_outer (P := P) (w := w) fn a.tmps ps assign body
  rw [← hR] at hlaid
  have hd1 : ((w.alloc (.deferred (some []))).alloc (.loop (R .ready none))).heap[w.heap.size]? = some (.deferred (some [])) := (Below.heap_alloc _ _ _ (by simp)).trans (World.alloc_heap_new w _)
  have hl1 : ((w.alloc (.deferred (some []))).alloc (.loop (R .ready none))).heap[w.heap.size + 1]? = some (.loop (R .ready none)) := by
    have h := World.alloc_heap_new (w.alloc (.deferred (some []))) (.loop (R .ready none))
    rwa [World.size_alloc] at h
  have hi1 := hI.alloc (.loop (R .ready none)) (hI.alloc (.deferred (some [])) h0)
  have hb1 := ((Below.refl w.heap.size w).alloc (Nat.le_refl _) (.deferred (some []))).alloc (by simp) (.loop (R .ready none))
  have hz1 : w.heap.size ≤ ((w.alloc (.deferred (some []))).alloc (.loop (R .ready none))).heap.size := hb1.size
  generalize (w.alloc (.deferred (some []))).alloc (.loop (R .ready none)) = W1 at hlaid hd1 hl1 hi1 hb1 hz1
  refine ⟨w.heap.size + 1, [{ target := .collected w.heap.size, args := #[] }], W1, { target := .fn (.func gf) lb, args := #[.func (.yield (w.heap.size + 1)) #[] #[]] }, W1, gf, #[.func (.yield (w.heap.size + 1)) #[] #[]] ++ lb, W1, hlaid, ?_, ?_, ?_, fun _ => h1, ?_⟩
  · simp only [resolve, hg]
    simp [go_sem]
  · intro f' hf'
    simp [Target.leads] at hf'
    subst hf'
    exact hFg
  · simp [invoke, go_sem, eg]
  -- the books: the record and the block for deferred calls
  have kept : ∀ {X Y : World} {o : Obj} {k : Nat}, Below X.heap.size X Y → X.heap[k]? = some o → Y.heap[k]? = some o := fun hb hk => (hb.block _ (Array.getElem?_eq_some_iff.1 hk).1).trans hk
  have turned : ∀ {X : World} {r : Loop} {o' : Obj}, X.heap[w.heap.size + 1]? = some (.loop r) → Same S X (X.putObj (w.heap.size + 1) o') := fun {X r o'} h =>
    ⟨(grownBy_putObj' X (w.heap.size + 1) o').size, fun k o hk ho => (World.putObj_heap_other (fun e => by have := hB k hk; omega)).trans ho⟩
  refine (hseq (w.heap.size + 1)
    (fun pre W => I pre W ∧ W.heap[w.heap.size + 1]? = some (.loop (R .ready none)) ∧ W.heap[w.heap.size]? = some (.deferred (some [])))
    (fun pre W => ∃ c, Ix c pre W ∧ W.heap[w.heap.size + 1]? = some (.loop (R .done (some c))) ∧ W.heap[w.heap.size]? = some (.deferred (some [])))
    W1 hb1
    (fun s A C h hb => ⟨ownFrom_later hI h.1 hb, kept hb h.2.1, kept hb h.2.2⟩)
    (fun s A C h hb => by
      obtain ⟨c, hc, h2, h3⟩ := h
      exact ⟨c, ownFrom_later (hIx c) hc hb, kept hb h2, kept hb h3⟩)
    ?_ ⟨hi1, hl1, hd1⟩).mono ?_
  · rintro pre x A C ⟨hi, hl, hd⟩ hb hok
    have hzA : w.heap.size ≤ A.heap.size := by have := (Array.getElem?_eq_some_iff.1 hd).1; omega
    have hlC := kept hb hl
    have hdC := kept hb hd
    have hy := run_yield (P := P) (args := encs x) hlC (by rw [hR]; exact hps x)
    rw [hR] at hy
    refine ⟨fn, _, assign, body, hy, roundIn_of_wpIn hfn (hassign _ pre x A C _ hi hb hok hzA fun a' C2 hk2 hb2 ht => ?_)⟩
    have hl2 := hk2.same _ _ (by omega) hlC rfl
    have hd2 := hk2.same _ _ (Nat.le_refl _) hdC rfl
    have hlt := (Array.getElem?_eq_some_iff.1 hl2).1
    refine ⟨_, run_beginRound hl2 (by rw [hR]), ?_⟩
    have hbusy : (C2.putObj (w.heap.size + 1) (.loop { R .ready none with state := .busy })).heap[w.heap.size + 1]? = some (.loop { R .ready none with state := .busy }) := World.putObj_heap_same hlt
    have hd3 : (C2.putObj (w.heap.size + 1) (.loop { R .ready none with state := .busy })).heap[w.heap.size]? = some (.deferred (some [])) := (World.putObj_heap_other (by omega)).trans hd2
    have hb3 := turned (o' := .loop { R .ready none with state := .busy }) hl2
    have ht3 := (hT a').putObj (s := (pre, x)) (.loop { R .ready none with state := .busy }) ht (l := w.heap.size + 1) (by omega) hl2 rfl
    generalize C2.putObj (w.heap.size + 1) (.loop { R .ready none with state := .busy }) = C3 at hbusy hd3 hb3 ht3
    have close : ∀ (j : Option Code) (C4 : World), KeepsFrom w.heap.size C3 C4 → ∃ C5, (Instr.endRound (w.heap.size + 1) j).run P C4 = .ok (.bool j.isNone) C5 ∧ C5 = C4.putObj (w.heap.size + 1) (.loop (R (if j.isNone then .ready else .done) j)) ∧
        C4.heap[w.heap.size + 1]? = some (.loop { R .ready none with state := .busy }) ∧ C5.heap[w.heap.size + 1]? = some (.loop (R (if j.isNone then .ready else .done) j)) ∧ C5.heap[w.heap.size]? = some (.deferred (some [])) := by
      intro j C4 hk4
      have hl4 := hk4.same _ _ (by omega) hbusy rfl
      have h := run_endRound (P := P) j hl4
      rw [hR] at h
      exact ⟨_, h, by rw [hR], hl4, by rw [hR]; exact World.putObj_heap_same (Array.getElem?_eq_some_iff.1 hl4).1, (World.putObj_heap_other (by omega)).trans (hk4.same _ _ (Nat.le_refl _) hd3 rfl)⟩
    refine wpIn_mono (hbody _ pre x a' _ ht3) ?_
    intro e a4 C4 hp
    match e, hp with
    | .normal, ⟨hk4, hb4, hi4⟩ =>
      obtain ⟨C5, hr, rfl, h4, h5, h6⟩ := close none C4 hk4
      exact ⟨_, _, hr, .inl ⟨rfl, ⟨hI.putObj _ hi4 (by omega) h4 rfl, h5, h6⟩, hb2.trans (hb3.trans (hb4.trans (turned h4)))⟩⟩
    | .ret, ⟨hk4, hi4⟩ =>
      obtain ⟨C5, hr, rfl, h4, h5, h6⟩ := close (some .ret) C4 hk4
      exact ⟨_, _, hr, .inr ⟨rfl, .ret, (hIx _).putObj _ hi4 (by omega) h4 rfl, h5, h6⟩⟩
    | .exit id, ⟨hk4, hi4⟩ =>
      obtain ⟨C5, hr, rfl, h4, h5, h6⟩ := close (some (.exit id)) C4 hk4
      exact ⟨_, _, hr, .inr ⟨rfl, .exit id, (hIx _).putObj _ hi4 (by omega) h4 rfl, h5, h6⟩⟩
    | .goto t, ⟨hk4, hi4⟩ =>
      obtain ⟨C5, hr, rfl, h4, h5, h6⟩ := close (some (.goto t)) C4 hk4
      exact ⟨_, _, hr, .inr ⟨rfl, .goto t, (hIx _).putObj _ hi4 (by omega) h4 rfl, h5, h6⟩⟩
  · rintro e W2 ⟨⟨v, rfl⟩, ⟨xs, hS, hi, hl, hd⟩ | ⟨pre, hS, c, hi, hl, hd⟩⟩
    · have h := run_endLoop (P := P) hl (by rw [hR]; simp)
      rw [hR] at h
      exact ⟨none, _, h, hdone _ xs _ (Nat.le_refl _) hS (hI.putObj _ hi (by omega) hl rfl) ((World.putObj_heap_other (by omega)).trans hd)⟩
    · have h := run_endLoop (P := P) hl (by rw [hR]; simp)
      rw [hR] at h
      exact ⟨some c, _, h, hstop _ c pre _ (Nat.le_refl _) hS ((hIx c).putObj _ hi (by omega) hl rfl) ((World.putObj_heap_other (by omega)).trans hd)⟩

/-- THE ITERATOR: between two rounds it leaves all that lay there (J, Jx abide new blocks); what it hands over is 'Ok', told of the world behind the round ahead (A) and of this one (C); a round keeps the blocks of S. -/
def TellsAt {α : Type} (F : Fence) (n : Nat) (P : Program) (gf : Nat) (lb : Array Value) (encs : α → Array Value) (Ok : List α → World → α → World → Prop) (Sa Sp : List α → Prop) (S : Nat → Prop) (w : World) : Prop :=
  ∀ (l : Nat) (J Jx : List α → World → Prop) (W : World), Below w.heap.size w W → (∀ s A C, J s A → Below A.heap.size A C → J s C) → (∀ s A C, Jx s A → Below A.heap.size A C → Jx s C) →
    (∀ pre x A C, J pre A → Below A.heap.size A C → Ok pre A x C → YieldAt F (n - 1) P l (encs x) C fun e C' => (e = .returned (.bool true) ∧ J (pre ++ [x]) C' ∧ Same S C C') ∨ (e = .returned (.bool false) ∧ Jx (pre ++ [x]) C')) →
    J [] W → CallsIn F n P gf (#[.func (.yield l) #[] #[]] ++ lb) W fun e W' => (∃ v, e = .returned v) ∧ ((∃ xs, Sa xs ∧ J xs W') ∨ (∃ pre, Sp pre ∧ Jx pre W'))

/-- THE LOOP -/
theorem range_told_at {α : Type} {g : Operand} {ps : Array Tmp} {assign body : Code} {Q : Exit → Act → World → Prop} {a : Act} {w : World}
    (hro : F.round = none) (h1 : 1 ≤ n) {gf : Nat} {lb : Array Value} (hg : a.eval g = .func (.func gf) #[] lb) (hFg : F.fn gf) (eg : ∀ args w, (callFunc gf args).run P w = .ok (.enter gf args) w)
    {encs : α → Array Value} {Ok : List α → World → α → World → Prop} {Sa Sp : List α → Prop} {S : Nat → Prop} (hseq : TellsAt F (n - 1) P gf lb encs Ok Sa Sp S w) (hB : ∀ k, S k → k < w.heap.size) (hps : ∀ x, (encs x).size = ps.size)
    (I : List α → World → Prop) (Ix : Code → List α → World → Prop) (T : List α → α → Act → World → Prop) (hI : OwnFrom w.heap.size I) (hIx : ∀ c, OwnFrom w.heap.size (Ix c)) (hT : ∀ a', OwnFrom w.heap.size (fun (s : List α × α) W => T s.1 s.2 a' W)) (h0 : I [] w)
    (hassign : ∀ (l : Nat) (pre : List α) (x : α) (A C : World) (K : Act → World → Prop), I pre A → Below A.heap.size A C → Ok pre A x C → w.heap.size ≤ A.heap.size → (∀ a' C', KeepsFrom w.heap.size C C' → Same S C C' → T pre x a' C' → K a' C') →
      assign.wpIn (F.inRound l) (n - 1 - 1) P (Exit.then K (fun _ _ _ => False)) { tmps := (ps.zip (encs x)).foldl (fun t (p, v) => t.setIfInBounds p v) a.tmps, defers := [] } C)
    (hbody : ∀ (l : Nat) (pre : List α) (x : α) (a' : Act) (W : World), T pre x a' W → body.wpIn (F.inRound l) (n - 1 - 1) P (ownPostG w.heap.size (Same S) I Ix (pre ++ [x]) W) a' W)
    (hdone : ∀ (D : Nat) (xs : List α) (W : World), w.heap.size ≤ D → Sa xs → I xs W → W.heap[D]? = some (.deferred (some [])) → Q .normal { a with defers := { target := .collected D, args := #[] } :: a.defers } W)
    (hstop : ∀ (D : Nat) (c : Code) (pre : List α) (W : World), w.heap.size ≤ D → Sp pre → Ix c pre W → W.heap[D]? = some (.deferred (some [])) → c.wpIn F n P Q { a with defers := { target := .collected D, args := #[] } :: a.defers } W) :
    (Code.rangeFunc g ps assign body).wpIn F n P Q a w := by
  refine wpIn_rangeFunc fun fn hfn => ?_
  rw [hro]
  have book : ∃ R : LoopState → Option Code → Loop, ∀ st pe, R st pe = { state := st, pending := pe, fn := fn, tmps := a.tmps, params := ps, assign := assign, body := body, defers := w.heap.size } := ⟨_, fun _ _ => rfl⟩
  obtain ⟨R, hR⟩ := book
  have hlaid := run_enterLoop_outer (P := P) (w := w) fn a.tmps ps assign body
  rw [← hR] at hlaid
  have hd1 : ((w.alloc (.deferred (some []))).alloc (.loop (R .ready none))).heap[w.heap.size]? = some (.deferred (some [])) := (Below.heap_alloc _ _ _ (by simp)).trans (World.alloc_heap_new w _)
  have hl1 : ((w.alloc (.deferred (some []))).alloc (.loop (R .ready none))).heap[w.heap.size + 1]? = some (.loop (R .ready none)) := by
    have h := World.alloc_heap_new (w.alloc (.deferred (some []))) (.loop (R .ready none))
    rwa [World.size_alloc] at h
  have hi1 := hI.alloc (.loop (R .ready none)) (hI.alloc (.deferred (some [])) h0)
  have hb1 := ((Below.refl w.heap.size w).alloc (Nat.le_refl _) (.deferred (some []))).alloc (by simp) (.loop (R .ready none))
  have hz1 : w.heap.size ≤ ((w.alloc (.deferred (some []))).alloc (.loop (R .ready none))).heap.size := hb1.size
  generalize (w.alloc (.deferred (some []))).alloc (.loop (R .ready none)) = W1 at hlaid hd1 hl1 hi1 hb1 hz1
  refine ⟨w.heap.size + 1, [{ target := .collected w.heap.size, args := #[] }], W1, { target := .fn (.func gf) lb, args := #[.func (.yield (w.heap.size + 1)) #[] #[]] }, W1, gf, #[.func (.yield (w.heap.size + 1)) #[] #[]] ++ lb, W1, hlaid, ?_, ?_, ?_, fun _ => h1, ?_⟩
  · simp only [resolve, hg]
    simp [go_sem]
  · intro f' hf'
    simp [Target.leads] at hf'
    subst hf'
    exact hFg
  · simp [invoke, go_sem, eg]
  -- the books: the record and the block for deferred calls
  have kept : ∀ {X Y : World} {o : Obj} {k : Nat}, Below X.heap.size X Y → X.heap[k]? = some o → Y.heap[k]? = some o := fun hb hk => (hb.block _ (Array.getElem?_eq_some_iff.1 hk).1).trans hk
  have turned : ∀ {X : World} {r : Loop} {o' : Obj}, X.heap[w.heap.size + 1]? = some (.loop r) → Same S X (X.putObj (w.heap.size + 1) o') := fun {X r o'} h =>
    ⟨(grownBy_putObj' X (w.heap.size + 1) o').size, fun k o hk ho => (World.putObj_heap_other (fun e => by have := hB k hk; omega)).trans ho⟩
  refine (hseq (w.heap.size + 1)
    (fun pre W => I pre W ∧ W.heap[w.heap.size + 1]? = some (.loop (R .ready none)) ∧ W.heap[w.heap.size]? = some (.deferred (some [])))
    (fun pre W => ∃ c, Ix c pre W ∧ W.heap[w.heap.size + 1]? = some (.loop (R .done (some c))) ∧ W.heap[w.heap.size]? = some (.deferred (some [])))
    W1 hb1
    (fun s A C h hb => ⟨ownFrom_later hI h.1 hb, kept hb h.2.1, kept hb h.2.2⟩)
    (fun s A C h hb => by
      obtain ⟨c, hc, h2, h3⟩ := h
      exact ⟨c, ownFrom_later (hIx c) hc hb, kept hb h2, kept hb h3⟩)
    ?_ ⟨hi1, hl1, hd1⟩).mono ?_
  · rintro pre x A C ⟨hi, hl, hd⟩ hb hok
    have hzA : w.heap.size ≤ A.heap.size := by have := (Array.getElem?_eq_some_iff.1 hd).1; omega
    have hlC := kept hb hl
    have hdC := kept hb hd
    have hy := run_yield (P := P) (args := encs x) hlC (by rw [hR]; exact hps x)
    rw [hR] at hy
    refine ⟨fn, _, assign, body, hy, roundIn_of_wpIn hfn (hassign _ pre x A C _ hi hb hok hzA fun a' C2 hk2 hb2 ht => ?_)⟩
    have hl2 := hk2.same _ _ (by omega) hlC rfl
    have hd2 := hk2.same _ _ (Nat.le_refl _) hdC rfl
    have hlt := (Array.getElem?_eq_some_iff.1 hl2).1
    refine ⟨_, run_beginRound hl2 (by rw [hR]), ?_⟩
    have hbusy : (C2.putObj (w.heap.size + 1) (.loop { R .ready none with state := .busy })).heap[w.heap.size + 1]? = some (.loop { R .ready none with state := .busy }) := World.putObj_heap_same hlt
    have hd3 : (C2.putObj (w.heap.size + 1) (.loop { R .ready none with state := .busy })).heap[w.heap.size]? = some (.deferred (some [])) := (World.putObj_heap_other (by omega)).trans hd2
    have hb3 := turned (o' := .loop { R .ready none with state := .busy }) hl2
    have ht3 := (hT a').putObj (s := (pre, x)) (.loop { R .ready none with state := .busy }) ht (l := w.heap.size + 1) (by omega) hl2 rfl
    generalize C2.putObj (w.heap.size + 1) (.loop { R .ready none with state := .busy }) = C3 at hbusy hd3 hb3 ht3
    have close : ∀ (j : Option Code) (C4 : World), KeepsFrom w.heap.size C3 C4 → ∃ C5, (Instr.endRound (w.heap.size + 1) j).run P C4 = .ok (.bool j.isNone) C5 ∧ C5 = C4.putObj (w.heap.size + 1) (.loop (R (if j.isNone then .ready else .done) j)) ∧
        C4.heap[w.heap.size + 1]? = some (.loop { R .ready none with state := .busy }) ∧ C5.heap[w.heap.size + 1]? = some (.loop (R (if j.isNone then .ready else .done) j)) ∧ C5.heap[w.heap.size]? = some (.deferred (some [])) := by
      intro j C4 hk4
      have hl4 := hk4.same _ _ (by omega) hbusy rfl
      have h := run_endRound (P := P) j hl4
      rw [hR] at h
      exact ⟨_, h, by rw [hR], hl4, by rw [hR]; exact World.putObj_heap_same (Array.getElem?_eq_some_iff.1 hl4).1, (World.putObj_heap_other (by omega)).trans (hk4.same _ _ (Nat.le_refl _) hd3 rfl)⟩
    refine wpIn_mono (hbody _ pre x a' _ ht3) ?_
    intro e a4 C4 hp
    match e, hp with
    | .normal, ⟨hk4, hb4, hi4⟩ =>
      obtain ⟨C5, hr, rfl, h4, h5, h6⟩ := close none C4 hk4
      exact ⟨_, _, hr, .inl ⟨rfl, ⟨hI.putObj _ hi4 (by omega) h4 rfl, h5, h6⟩, hb2.trans (hb3.trans (hb4.trans (turned h4)))⟩⟩
    | .ret, ⟨hk4, hi4⟩ =>
      obtain ⟨C5, hr, rfl, h4, h5, h6⟩ := close (some .ret) C4 hk4
      exact ⟨_, _, hr, .inr ⟨rfl, .ret, (hIx _).putObj _ hi4 (by omega) h4 rfl, h5, h6⟩⟩
    | .exit id, ⟨hk4, hi4⟩ =>
      obtain ⟨C5, hr, rfl, h4, h5, h6⟩ := close (some (.exit id)) C4 hk4
      exact ⟨_, _, hr, .inr ⟨rfl, .exit id, (hIx _).putObj _ hi4 (by omega) h4 rfl, h5, h6⟩⟩
    | .goto t, ⟨hk4, hi4⟩ =>
      obtain ⟨C5, hr, rfl, h4, h5, h6⟩ := close (some (.goto t)) C4 hk4
      exact ⟨_, _, hr, .inr ⟨rfl, .goto t, (hIx _).putObj _ hi4 (by omega) h4 rfl, h5, h6⟩⟩
  · rintro e W2 ⟨⟨v, rfl⟩, ⟨xs, hS, hi, hl, hd⟩ | ⟨pre, hS, c, hi, hl, hd⟩⟩
    · have h := run_endLoop (P := P) hl (by rw [hR]; simp)
      rw [hR] at h
      exact ⟨none, _, h, hdone _ xs _ (Nat.le_refl _) hS (hI.putObj _ hi (by omega) hl rfl) ((World.putObj_heap_other (by omega)).trans hd)⟩
    · have h := run_endLoop (P := P) hl (by rw [hR]; simp)
      rw [hR] at h
      exact ⟨some c, _, h, hstop _ c pre _ (Nat.le_refl _) hS ((hIx c).putObj _ hi (by omega) hl rfl) ((World.putObj_heap_other (by omega)).trans hd)⟩
end Go.Proofs.YtmkbbekeimnajaaDoor
