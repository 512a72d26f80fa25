/- texts of this proof, one behind the other: Rf Mem Crc Roll Of Ref Uv Wr Sum Wd Cat Enc Str Ap Rd Nm -/
import Derived.RangeFuncNested
import Derived.RangeFuncBound
import Derived.Test.YtgebekklkodpaaaDoorProg
import Derived.WalkKit
import Derived.WalkLawsBesides
import Derived.Deep.MidRow
import Derived.KernelRfl
import Derived.Lib.SmallJoins
import Derived.Laws.AppendOwnNone
import Derived.Deep.RegionLaw
import Derived.Deep.AppendLies
import Derived.Laws.CopyOwn
import Derived.Deep.QuietTactic
import Derived.BigQuiet
/-! Rf: A range over a function whose iterator also tells what lies in memory at what it hands over; plain, for any program. -/
namespace Go.Proofs.YtgebekklkodpaaaDoor
open Go.RowKit
variable {F : Fence} {n : Nat} {P : Program}

/-- the blocks of S lie as they lay -/
structure Same (S : Nat → Prop) (A C : World) : Prop where
  size : A.heap.size ≤ C.heap.size
  same : ∀ (k : Nat) (o : Obj), S k → A.heap[k]? = some o → C.heap[k]? = some o
theorem Same.refl (S : Nat → Prop) (A : World) : Same S A A := ⟨Nat.le_refl _, fun _ _ _ h => h⟩
theorem Same.trans {S : Nat → Prop} {A C D : World} (h : Same S A C) (k : Same S C D) : Same S A D := ⟨Nat.le_trans h.size k.size, fun i o hi ho => k.same i o hi (h.same i o hi ho)⟩
theorem same_below {S : Nat → Prop} {A C : World} (h : Below A.heap.size A C) : Same S A C := ⟨h.size, fun k _ _ hk => (h.block k (Array.getElem?_eq_some_iff.1 hk).1).trans hk⟩
theorem same_under {S : Nat → Prop} {B : Nat} {A C : World} (h : Below B A C) (hS : ∀ k, S k → k < B) : Same S A C := ⟨h.size, fun k _ hk ho => (h.block k (hS k hk)).trans ho⟩
theorem same_cell {S : Nat → Prop} {A C : World} (h : Same S A C) {p : Addr} {v : Value} (hp : S p.block) (hv : A.cell? p = some v) : C.cell? p = some v := by
  obtain ⟨o, ho, _⟩ := cells_of_cell hv
  exact (World.cell?_of_block ((h.same _ _ hp ho).trans ho.symm)).trans hv

/-- THE ITERATOR: between two rounds it leaves all that lay there (J, Jx abide new blocks); what it hands over is 'Ok', told of the world behind the round ahead (A) and of this one (C); a round keeps the blocks of S. -/
def Tells {α : Type} (F : Fence) (n : Nat) (P : Program) (gf : Nat) (lb : Array Value) (encs : α → Array Value) (Ok : World → α → World → Prop) (Sa Sp : List α → Prop) (S : Nat → Prop) (w : World) : Prop :=
  ∀ (l : Nat) (J Jx : List α → World → Prop) (W : World), Below w.heap.size w W → (∀ s A C, J s A → Below A.heap.size A C → J s C) → (∀ s A C, Jx s A → Below A.heap.size A C → Jx s C) →
    (∀ pre x A C, J pre A → Below A.heap.size A C → Ok A x C → YieldAt F (n - 1) P l (encs x) C fun e C' => (e = .returned (.bool true) ∧ J (pre ++ [x]) C' ∧ Same S C C') ∨ (e = .returned (.bool false) ∧ Jx (pre ++ [x]) C')) →
    J [] W → CallsIn F n P gf (#[.func (.yield l) #[] #[]] ++ lb) W fun e W' => (∃ v, e = .returned v) ∧ ((∃ xs, Sa xs ∧ J xs W') ∨ (∃ pre, Sp pre ∧ Jx pre W'))

theorem grown_of_below {A C : World} (h : Below A.heap.size A C) : A.grownBy C none := ⟨h.os, h.tape, h.output, h.size, fun k hk _ => h.block k hk⟩
theorem ownFrom_later {β : Type} {B : Nat} {I : β → World → Prop} (h : OwnFrom B I) {s : β} {A C : World} (hs : I s A) (hb : Below A.heap.size A C) : I s C :=
  h s A C none hs (grown_of_below hb) (fun _ e => by cases e)

/-- THE LOOP -/
theorem range_told {α : Type} {g : Operand} {ps : Array Tmp} {assign body : Code} {Q : Exit → Act → World → Prop} {a : Act} {w : World}
    (hro : F.round = none) (h1 : 1 ≤ n) {gf : Nat} {lb : Array Value} (hg : a.eval g = .func (.func gf) #[] lb) (hFg : F.fn gf) (eg : ∀ args w, (callFunc gf args).run P w = .ok (.enter gf args) w)
    {encs : α → Array Value} {Ok : World → α → World → Prop} {Sa Sp : List α → Prop} {S : Nat → Prop} (hseq : Tells F (n - 1) P gf lb encs Ok Sa Sp S w) (hB : ∀ k, S k → k < w.heap.size) (hps : ∀ x, (encs x).size = ps.size)
    (I : List α → World → Prop) (Ix : Code → List α → World → Prop) (T : List α → α → Act → World → Prop) (hI : OwnFrom w.heap.size I) (hIx : ∀ c, OwnFrom w.heap.size (Ix c)) (hT : ∀ a', OwnFrom w.heap.size (fun (s : List α × α) W => T s.1 s.2 a' W)) (h0 : I [] w)
    (hassign : ∀ (l : Nat) (pre : List α) (x : α) (A C : World) (K : Act → World → Prop), I pre A → Below A.heap.size A C → Ok A x C → w.heap.size ≤ A.heap.size → (∀ a' C', KeepsFrom w.heap.size C C' → Same S C C' → T pre x a' C' → K a' C') →
      assign.wpIn (F.inRound l) (n - 1 - 1) P (Exit.then K (fun _ _ _ => False)) { tmps := (ps.zip (encs x)).foldl (fun t (p, v) => t.setIfInBounds p v) a.tmps, defers := [] } C)
    (hbody : ∀ (l : Nat) (pre : List α) (x : α) (a' : Act) (W : World), T pre x a' W → body.wpIn (F.inRound l) (n - 1 - 1) P (ownPostG w.heap.size (Same S) I Ix (pre ++ [x]) W) a' W)
    (hdone : ∀ (D : Nat) (xs : List α) (W : World), w.heap.size ≤ D → Sa xs → I xs W → W.heap[D]? = some (.deferred (some [])) → Q .normal { a with defers := { target := .collected D, args := #[] } :: a.defers } W)
    (hstop : ∀ (D : Nat) (c : Code) (pre : List α) (W : World), w.heap.size ≤ D → Sp pre → Ix c pre W → W.heap[D]? = some (.deferred (some [])) → c.wpIn F n P Q { a with defers := { target := .collected D, args := #[] } :: a.defers } W) :
    (Code.rangeFunc g ps assign body).wpIn F n P Q a w := by
  refine wpIn_rangeFunc fun fn hfn => ?_
  rw [hro]
  have book : ∃ R : LoopState → Option Code → Loop, ∀ st pe, R st pe = { state := st, pending := pe, fn := fn, tmps := a.tmps, params := ps, assign := assign, body := body, defers := w.heap.size } := ⟨_, fun _ _ => rfl⟩
  obtain ⟨R, hR⟩ := book
  have hlaid := run_enterLoop_outer (P := P) (w := w) fn a.tmps ps assign body
  rw [← hR] at hlaid
  have hd1 : ((w.alloc (.deferred (some []))).alloc (.loop (R .ready none))).heap[w.heap.size]? = some (.deferred (some [])) := (Below.heap_alloc _ _ _ (by simp)).trans (World.alloc_heap_new w _)
  have hl1 : ((w.alloc (.deferred (some []))).alloc (.loop (R .ready none))).heap[w.heap.size + 1]? = some (.loop (R .ready none)) := by
    have h := World.alloc_heap_new (w.alloc (.deferred (some []))) (.loop (R .ready none))
    rwa [World.size_alloc] at h
  have hi1 := hI.alloc (.loop (R .ready none)) (hI.alloc (.deferred (some [])) h0)
  have hb1 := ((Below.refl w.heap.size w).alloc (Nat.le_refl _) (.deferred (some []))).alloc (by simp) (.loop (R .ready none))
  have hz1 : w.heap.size ≤ ((w.alloc (.deferred (some []))).alloc (.loop (R .ready none))).heap.size := hb1.size
  generalize (w.alloc (.deferred (some []))).alloc (.loop (R .ready none)) = W1 at hlaid hd1 hl1 hi1 hb1 hz1
  refine ⟨w.heap.size + 1, [{ target := .collected w.heap.size, args := #[] }], W1, { target := .fn (.func gf) lb, args := #[.func (.yield (w.heap.size + 1)) #[] #[]] }, W1, gf, #[.func (.yield (w.heap.size + 1)) #[] #[]] ++ lb, W1, hlaid, ?_, ?_, ?_, fun _ => h1, ?_⟩
  · simp only [resolve, hg]
    simp [go_sem]
  · intro f' hf'
    simp [Target.leads] at hf'
    subst hf'
    exact hFg
  · simp [invoke, go_sem, eg]
  -- the books: the record and the block for deferred calls
  have kept : ∀ {X Y : World} {o : Obj} {k : Nat}, Below X.heap.size X Y → X.heap[k]? = some o → Y.heap[k]? = some o := fun hb hk => (hb.block _ (Array.getElem?_eq_some_iff.1 hk).1).trans hk
  have turned : ∀ {X : World} {r : Loop} {o' : Obj}, X.heap[w.heap.size + 1]? = some (.loop r) → Same S X (X.putObj (w.heap.size + 1) o') := fun {X r o'} h =>
    ⟨(grownBy_putObj' X (w.heap.size + 1) o').size, fun k o hk ho => (World.putObj_heap_other (fun e => by have := hB k hk; omega)).trans ho⟩
  refine (hseq (w.heap.size + 1)
    (fun pre W => I pre W ∧ W.heap[w.heap.size + 1]? = some (.loop (R .ready none)) ∧ W.heap[w.heap.size]? = some (.deferred (some [])))
    (fun pre W => ∃ c, Ix c pre W ∧ W.heap[w.heap.size + 1]? = some (.loop (R .done (some c))) ∧ W.heap[w.heap.size]? = some (.deferred (some [])))
    W1 hb1
    (fun s A C h hb => ⟨ownFrom_later hI h.1 hb, kept hb h.2.1, kept hb h.2.2⟩)
    (fun s A C h hb => by
      obtain ⟨c, hc, h2, h3⟩ := h
      exact ⟨c, ownFrom_later (hIx c) hc hb, kept hb h2, kept hb h3⟩)
    ?_ ⟨hi1, hl1, hd1⟩).mono ?_
  · rintro pre x A C ⟨hi, hl, hd⟩ hb hok
    have hzA : w.heap.size ≤ A.heap.size := by have := (Array.getElem?_eq_some_iff.1 hd).1; omega
    have hlC := kept hb hl
    have hdC := kept hb hd
    have hy := run_yield (P := P) (args := encs x) hlC (by rw [hR]; exact hps x)
    rw [hR] at hy
    refine ⟨fn, _, assign, body, hy, roundIn_of_wpIn hfn (hassign _ pre x A C _ hi hb hok hzA fun a' C2 hk2 hb2 ht => ?_)⟩
    have hl2 := hk2.same _ _ (by omega) hlC rfl
    have hd2 := hk2.same _ _ (Nat.le_refl _) hdC rfl
    have hlt := (Array.getElem?_eq_some_iff.1 hl2).1
    refine ⟨_, run_beginRound hl2 (by rw [hR]), ?_⟩
    have hbusy : (C2.putObj (w.heap.size + 1) (.loop { R .ready none with state := .busy })).heap[w.heap.size + 1]? = some (.loop { R .ready none with state := .busy }) := World.putObj_heap_same hlt
    have hd3 : (C2.putObj (w.heap.size + 1) (.loop { R .ready none with state := .busy })).heap[w.heap.size]? = some (.deferred (some [])) := (World.putObj_heap_other (by omega)).trans hd2
    have hb3 := turned (o' := .loop { R .ready none with state := .busy }) hl2
    have ht3 := (hT a').putObj (s := (pre, x)) (.loop { R .ready none with state := .busy }) ht (l := w.heap.size + 1) (by omega) hl2 rfl
    generalize C2.putObj (w.heap.size + 1) (.loop { R .ready none with state := .busy }) = C3 at hbusy hd3 hb3 ht3
    have close : ∀ (j : Option Code) (C4 : World), KeepsFrom w.heap.size C3 C4 → ∃ C5, (Instr.endRound (w.heap.size + 1) j).run P C4 = .ok (.bool j.isNone) C5 ∧ C5 = C4.putObj (w.heap.size + 1) (.loop (R (if j.isNone then .ready else .done) j)) ∧
        C4.heap[w.heap.size + 1]? = some (.loop { R .ready none with state := .busy }) ∧ C5.heap[w.heap.size + 1]? = some (.loop (R (if j.isNone then .ready else .done) j)) ∧ C5.heap[w.heap.size]? = some (.deferred (some [])) := by
      intro j C4 hk4
      have hl4 := hk4.same _ _ (by omega) hbusy rfl
      have h := run_endRound (P := P) j hl4
      rw [hR] at h
      exact ⟨_, h, by rw [hR], hl4, by rw [hR]; exact World.putObj_heap_same (Array.getElem?_eq_some_iff.1 hl4).1, (World.putObj_heap_other (by omega)).trans (hk4.same _ _ (Nat.le_refl _) hd3 rfl)⟩
    refine wpIn_mono (hbody _ pre x a' _ ht3) ?_
    intro e a4 C4 hp
    match e, hp with
    | .normal, ⟨hk4, hb4, hi4⟩ =>
      obtain ⟨C5, hr, rfl, h4, h5, h6⟩ := close none C4 hk4
      exact ⟨_, _, hr, .inl ⟨rfl, ⟨hI.putObj _ hi4 (by omega) h4 rfl, h5, h6⟩, hb2.trans (hb3.trans (hb4.trans (turned h4)))⟩⟩
    | .ret, ⟨hk4, hi4⟩ =>
      obtain ⟨C5, hr, rfl, h4, h5, h6⟩ := close (some .ret) C4 hk4
      exact ⟨_, _, hr, .inr ⟨rfl, .ret, (hIx _).putObj _ hi4 (by omega) h4 rfl, h5, h6⟩⟩
    | .exit id, ⟨hk4, hi4⟩ =>
      obtain ⟨C5, hr, rfl, h4, h5, h6⟩ := close (some (.exit id)) C4 hk4
      exact ⟨_, _, hr, .inr ⟨rfl, .exit id, (hIx _).putObj _ hi4 (by omega) h4 rfl, h5, h6⟩⟩
    | .goto t, ⟨hk4, hi4⟩ =>
      obtain ⟨C5, hr, rfl, h4, h5, h6⟩ := close (some (.goto t)) C4 hk4
      exact ⟨_, _, hr, .inr ⟨rfl, .goto t, (hIx _).putObj _ hi4 (by omega) h4 rfl, h5, h6⟩⟩
  · rintro e W2 ⟨⟨v, rfl⟩, ⟨xs, hS, hi, hl, hd⟩ | ⟨pre, hS, c, hi, hl, hd⟩⟩
    · have h := run_endLoop (P := P) hl (by rw [hR]; simp)
      rw [hR] at h
      exact ⟨none, _, h, hdone _ xs _ (Nat.le_refl _) hS (hI.putObj _ hi (by omega) hl rfl) ((World.putObj_heap_other (by omega)).trans hd)⟩
    · have h := run_endLoop (P := P) hl (by rw [hR]; simp)
      rw [hR] at h
      exact ⟨some c, _, h, hstop _ c pre _ (Nat.le_refl _) hS ((hIx c).putObj _ hi (by omega) hl rfl) ((World.putObj_heap_other (by omega)).trans hd)⟩

/-- THE ITERATOR: between two rounds it leaves all that lay there (J, Jx abide new blocks); what it hands over is 'Ok', told of the world behind the round ahead (A) and of this one (C); a round keeps the blocks of S. -/
def TellsAt {α : Type} (F : Fence) (n : Nat) (P : Program) (gf : Nat) (lb : Array Value) (encs : α → Array Value) (Ok : List α → World → α → World → Prop) (Sa Sp : List α → Prop) (S : Nat → Prop) (w : World) : Prop :=
  ∀ (l : Nat) (J Jx : List α → World → Prop) (W : World), Below w.heap.size w W → (∀ s A C, J s A → Below A.heap.size A C → J s C) → (∀ s A C, Jx s A → Below A.heap.size A C → Jx s C) →
    (∀ pre x A C, J pre A → Below A.heap.size A C → Ok pre A x C → YieldAt F (n - 1) P l (encs x) C fun e C' => (e = .returned (.bool true) ∧ J (pre ++ [x]) C' ∧ Same S C C') ∨ (e = .returned (.bool false) ∧ Jx (pre ++ [x]) C')) →
    J [] W → CallsIn F n P gf (#[.func (.yield l) #[] #[]] ++ lb) W fun e W' => (∃ v, e = .returned v) ∧ ((∃ xs, Sa xs ∧ J xs W') ∨ (∃ pre, Sp pre ∧ Jx pre W'))

/-- THE LOOP -/
theorem range_told_at {α : Type} {g : Operand} {ps : Array Tmp} {assign body : Code} {Q : Exit → Act → World → Prop} {a : Act} {w : World}
    (hro : F.round = none) (h1 : 1 ≤ n) {gf : Nat} {lb : Array Value} (hg : a.eval g = .func (.func gf) #[] lb) (hFg : F.fn gf) (eg : ∀ args w, (callFunc gf args).run P w = .ok (.enter gf args) w)
    {encs : α → Array Value} {Ok : List α → World → α → World → Prop} {Sa Sp : List α → Prop} {S : Nat → Prop} (hseq : TellsAt F (n - 1) P gf lb encs Ok Sa Sp S w) (hB : ∀ k, S k → k < w.heap.size) (hps : ∀ x, (encs x).size = ps.size)
    (I : List α → World → Prop) (Ix : Code → List α → World → Prop) (T : List α → α → Act → World → Prop) (hI : OwnFrom w.heap.size I) (hIx : ∀ c, OwnFrom w.heap.size (Ix c)) (hT : ∀ a', OwnFrom w.heap.size (fun (s : List α × α) W => T s.1 s.2 a' W)) (h0 : I [] w)
    (hassign : ∀ (l : Nat) (pre : List α) (x : α) (A C : World) (K : Act → World → Prop), I pre A → Below A.heap.size A C → Ok pre A x C → w.heap.size ≤ A.heap.size → (∀ a' C', KeepsFrom w.heap.size C C' → Same S C C' → T pre x a' C' → K a' C') →
      assign.wpIn (F.inRound l) (n - 1 - 1) P (Exit.then K (fun _ _ _ => False)) { tmps := (ps.zip (encs x)).foldl (fun t (p, v) => t.setIfInBounds p v) a.tmps, defers := [] } C)
    (hbody : ∀ (l : Nat) (pre : List α) (x : α) (a' : Act) (W : World), T pre x a' W → body.wpIn (F.inRound l) (n - 1 - 1) P (ownPostG w.heap.size (Same S) I Ix (pre ++ [x]) W) a' W)
    (hdone : ∀ (D : Nat) (xs : List α) (W : World), w.heap.size ≤ D → Sa xs → I xs W → W.heap[D]? = some (.deferred (some [])) → Q .normal { a with defers := { target := .collected D, args := #[] } :: a.defers } W)
    (hstop : ∀ (D : Nat) (c : Code) (pre : List α) (W : World), w.heap.size ≤ D → Sp pre → Ix c pre W → W.heap[D]? = some (.deferred (some [])) → c.wpIn F n P Q { a with defers := { target := .collected D, args := #[] } :: a.defers } W) :
    (Code.rangeFunc g ps assign body).wpIn F n P Q a w := by
  refine wpIn_rangeFunc fun fn hfn => ?_
  rw [hro]
  have book : ∃ R : LoopState → Option Code → Loop, ∀ st pe, R st pe = { state := st, pending := pe, fn := fn, tmps := a.tmps, params := ps, assign := assign, body := body, defers := w.heap.size } := ⟨_, fun _ _ => rfl⟩
  obtain ⟨R, hR⟩ := book
  have hlaid := run_enterLoop_outer (P := P) (w := w) fn a.tmps ps assign body
  rw [← hR] at hlaid
  have hd1 : ((w.alloc (.deferred (some []))).alloc (.loop (R .ready none))).heap[w.heap.size]? = some (.deferred (some [])) := (Below.heap_alloc _ _ _ (by simp)).trans (World.alloc_heap_new w _)
  have hl1 : ((w.alloc (.deferred (some []))).alloc (.loop (R .ready none))).heap[w.heap.size + 1]? = some (.loop (R .ready none)) := by
    have h := World.alloc_heap_new (w.alloc (.deferred (some []))) (.loop (R .ready none))
    rwa [World.size_alloc] at h
  have hi1 := hI.alloc (.loop (R .ready none)) (hI.alloc (.deferred (some [])) h0)
  have hb1 := ((Below.refl w.heap.size w).alloc (Nat.le_refl _) (.deferred (some []))).alloc (by simp) (.loop (R .ready none))
  have hz1 : w.heap.size ≤ ((w.alloc (.deferred (some []))).alloc (.loop (R .ready none))).heap.size := hb1.size
  generalize (w.alloc (.deferred (some []))).alloc (.loop (R .ready none)) = W1 at hlaid hd1 hl1 hi1 hb1 hz1
  refine ⟨w.heap.size + 1, [{ target := .collected w.heap.size, args := #[] }], W1, { target := .fn (.func gf) lb, args := #[.func (.yield (w.heap.size + 1)) #[] #[]] }, W1, gf, #[.func (.yield (w.heap.size + 1)) #[] #[]] ++ lb, W1, hlaid, ?_, ?_, ?_, fun _ => h1, ?_⟩
  · simp only [resolve, hg]
    simp [go_sem]
  · intro f' hf'
    simp [Target.leads] at hf'
    subst hf'
    exact hFg
  · simp [invoke, go_sem, eg]
  -- the books: the record and the block for deferred calls
  have kept : ∀ {X Y : World} {o : Obj} {k : Nat}, Below X.heap.size X Y → X.heap[k]? = some o → Y.heap[k]? = some o := fun hb hk => (hb.block _ (Array.getElem?_eq_some_iff.1 hk).1).trans hk
  have turned : ∀ {X : World} {r : Loop} {o' : Obj}, X.heap[w.heap.size + 1]? = some (.loop r) → Same S X (X.putObj (w.heap.size + 1) o') := fun {X r o'} h =>
    ⟨(grownBy_putObj' X (w.heap.size + 1) o').size, fun k o hk ho => (World.putObj_heap_other (fun e => by have := hB k hk; omega)).trans ho⟩
  refine (hseq (w.heap.size + 1)
    (fun pre W => I pre W ∧ W.heap[w.heap.size + 1]? = some (.loop (R .ready none)) ∧ W.heap[w.heap.size]? = some (.deferred (some [])))
    (fun pre W => ∃ c, Ix c pre W ∧ W.heap[w.heap.size + 1]? = some (.loop (R .done (some c))) ∧ W.heap[w.heap.size]? = some (.deferred (some [])))
    W1 hb1
    (fun s A C h hb => ⟨ownFrom_later hI h.1 hb, kept hb h.2.1, kept hb h.2.2⟩)
    (fun s A C h hb => by
      obtain ⟨c, hc, h2, h3⟩ := h
      exact ⟨c, ownFrom_later (hIx c) hc hb, kept hb h2, kept hb h3⟩)
    ?_ ⟨hi1, hl1, hd1⟩).mono ?_
  · rintro pre x A C ⟨hi, hl, hd⟩ hb hok
    have hzA : w.heap.size ≤ A.heap.size := by have := (Array.getElem?_eq_some_iff.1 hd).1; omega
    have hlC := kept hb hl
    have hdC := kept hb hd
    have hy := run_yield (P := P) (args := encs x) hlC (by rw [hR]; exact hps x)
    rw [hR] at hy
    refine ⟨fn, _, assign, body, hy, roundIn_of_wpIn hfn (hassign _ pre x A C _ hi hb hok hzA fun a' C2 hk2 hb2 ht => ?_)⟩
    have hl2 := hk2.same _ _ (by omega) hlC rfl
    have hd2 := hk2.same _ _ (Nat.le_refl _) hdC rfl
    have hlt := (Array.getElem?_eq_some_iff.1 hl2).1
    refine ⟨_, run_beginRound hl2 (by rw [hR]), ?_⟩
    have hbusy : (C2.putObj (w.heap.size + 1) (.loop { R .ready none with state := .busy })).heap[w.heap.size + 1]? = some (.loop { R .ready none with state := .busy }) := World.putObj_heap_same hlt
    have hd3 : (C2.putObj (w.heap.size + 1) (.loop { R .ready none with state := .busy })).heap[w.heap.size]? = some (.deferred (some [])) := (World.putObj_heap_other (by omega)).trans hd2
    have hb3 := turned (o' := .loop { R .ready none with state := .busy }) hl2
    have ht3 := (hT a').putObj (s := (pre, x)) (.loop { R .ready none with state := .busy }) ht (l := w.heap.size + 1) (by omega) hl2 rfl
    generalize C2.putObj (w.heap.size + 1) (.loop { R .ready none with state := .busy }) = C3 at hbusy hd3 hb3 ht3
    have close : ∀ (j : Option Code) (C4 : World), KeepsFrom w.heap.size C3 C4 → ∃ C5, (Instr.endRound (w.heap.size + 1) j).run P C4 = .ok (.bool j.isNone) C5 ∧ C5 = C4.putObj (w.heap.size + 1) (.loop (R (if j.isNone then .ready else .done) j)) ∧
        C4.heap[w.heap.size + 1]? = some (.loop { R .ready none with state := .busy }) ∧ C5.heap[w.heap.size + 1]? = some (.loop (R (if j.isNone then .ready else .done) j)) ∧ C5.heap[w.heap.size]? = some (.deferred (some [])) := by
      intro j C4 hk4
      have hl4 := hk4.same _ _ (by omega) hbusy rfl
      have h := run_endRound (P := P) j hl4
      rw [hR] at h
      exact ⟨_, h, by rw [hR], hl4, by rw [hR]; exact World.putObj_heap_same (Array.getElem?_eq_some_iff.1 hl4).1, (World.putObj_heap_other (by omega)).trans (hk4.same _ _ (Nat.le_refl _) hd3 rfl)⟩
    refine wpIn_mono (hbody _ pre x a' _ ht3) ?_
    intro e a4 C4 hp
    match e, hp with
    | .normal, ⟨hk4, hb4, hi4⟩ =>
      obtain ⟨C5, hr, rfl, h4, h5, h6⟩ := close none C4 hk4
      exact ⟨_, _, hr, .inl ⟨rfl, ⟨hI.putObj _ hi4 (by omega) h4 rfl, h5, h6⟩, hb2.trans (hb3.trans (hb4.trans (turned h4)))⟩⟩
    | .ret, ⟨hk4, hi4⟩ =>
      obtain ⟨C5, hr, rfl, h4, h5, h6⟩ := close (some .ret) C4 hk4
      exact ⟨_, _, hr, .inr ⟨rfl, .ret, (hIx _).putObj _ hi4 (by omega) h4 rfl, h5, h6⟩⟩
    | .exit id, ⟨hk4, hi4⟩ =>
      obtain ⟨C5, hr, rfl, h4, h5, h6⟩ := close (some (.exit id)) C4 hk4
      exact ⟨_, _, hr, .inr ⟨rfl, .exit id, (hIx _).putObj _ hi4 (by omega) h4 rfl, h5, h6⟩⟩
    | .goto t, ⟨hk4, hi4⟩ =>
      obtain ⟨C5, hr, rfl, h4, h5, h6⟩ := close (some (.goto t)) C4 hk4
      exact ⟨_, _, hr, .inr ⟨rfl, .goto t, (hIx _).putObj _ hi4 (by omega) h4 rfl, h5, h6⟩⟩
  · rintro e W2 ⟨⟨v, rfl⟩, ⟨xs, hS, hi, hl, hd⟩ | ⟨pre, hS, c, hi, hl, hd⟩⟩
    · have h := run_endLoop (P := P) hl (by rw [hR]; simp)
      rw [hR] at h
      exact ⟨none, _, h, hdone _ xs _ (Nat.le_refl _) hS (hI.putObj _ hi (by omega) hl rfl) ((World.putObj_heap_other (by omega)).trans hd)⟩
    · have h := run_endLoop (P := P) hl (by rw [hR]; simp)
      rw [hR] at h
      exact ⟨some c, _, h, hstop _ c pre _ (Nat.le_refl _) hS ((hIx c).putObj _ hi (by omega) hl rfl) ((World.putObj_heap_other (by omega)).trans hd)⟩
end Go.Proofs.YtgebekklkodpaaaDoor

/-! Mem: plain lemmas on worlds: blocks known whole -/
namespace Go.Proofs.YtgebekklkodpaaaDoor
open Go.RowKit

theorem ret_int {k : IntKind} {a b : Int} (h : a = b) : Ending.returned (.int k a) = .returned (.int k b) := by rw [h]
theorem hide {p : Prop} (h : p) : Hid p := h

theorem heap_lt {w : World} {g : Nat} {o : Obj} (h : w.heap[g]? = some o) : g < w.heap.size := (Array.getElem?_eq_some_iff.1 h).1
theorem heap_set {w : World} {g i : Nat} {cs : Array Value} {E : TypeId} {fr : Nat × Nat} (h : w.heap[g]? = some (.cells cs E fr)) (v : Value) :
    (w.setCell ⟨g, i, none⟩ v).heap[g]? = some (.cells (cs.setIfInBounds i v) E fr) := by
  simp only [World.setCell, Array.getElem?_modify, h]
  simp
theorem heap_old {w : World} {g : Nat} {o : Obj} (h : w.heap[g]? = some o) (x : Obj) : (w.alloc x).heap[g]? = some o := (Below.heap_alloc w x g (heap_lt h)).trans h
theorem heap_far {w : World} {g : Nat} {o : Obj} (h : w.heap[g]? = some o) {a : Addr} (ha : g ≠ a.block) (v : Value) : (w.setCell a v).heap[g]? = some o := (Below.heap_setCell w a v g ha).trans h
theorem heap_new {w : World} {g : Nat} (h : g = w.heap.size) (o : Obj) : (w.alloc o).heap[g]? = some o := by subst h; exact heap_alloc_new w o
theorem heap_else {w : World} {g b i : Nat} {o : Obj} (h : w.heap[g]? = some o) (hne : g ≠ b) (v : Value) : (w.setCell ⟨b, i, none⟩ v).heap[g]? = some o := heap_far h (a := ⟨b, i, none⟩) hne v
theorem below_set {B b i : Nat} {a w : World} (h : Below B a w) (hb : B ≤ b) (v : Value) : Below B a (w.setCell ⟨b, i, none⟩ v) := h.setCell (p := ⟨b, i, none⟩) hb v
theorem cell_at {w : World} {g : Nat} {cs : Array Value} {E : TypeId} {fr : Nat × Nat} (h : w.heap[g]? = some (.cells cs E fr)) (i : Nat) : w.cell? ⟨g, i, none⟩ = cs[i]? := by
  simp [World.cell?, h]
theorem free_at {w : World} {g : Nat} {cs : Array Value} {E : TypeId} (h : w.heap[g]? = some (.cells cs E (0, 0))) (i : Nat) : w.frozen? ⟨g, i, none⟩ = false := by
  simp [World.frozen?, h]
theorem range_at {w : World} {g : Nat} {cs : List Value} {E : TypeId} {fr : Nat × Nat} (h : w.heap[g]? = some (.cells cs.toArray E fr)) : w.rangeAt g 0 cs := fun j v hv => by
  rw [cell_at h]; simpa using hv
theorem there_at {w : World} {g : Nat} {cs : List Value} {E : TypeId} (h : w.heap[g]? = some (.cells cs.toArray E (0, 0))) : w.there g 0 cs.length := fun j hj => by
  refine ⟨?_, free_at h _⟩
  rw [cell_at h]; simp [hj]

theorem heap_setCells_any (g : Nat) (E : TypeId) (fr : Nat × Nat) : ∀ (vs : List Value) (o : Nat) (w : World) (C : Array Value), w.heap[g]? = some (.cells C E fr) →
    ∃ C' : Array Value, C'.size = C.size ∧ (w.setCells g o vs).heap[g]? = some (.cells C' E fr)
  | [], _, _, C, h => ⟨C, rfl, h⟩
  | v :: vs, o, w, C, h => by
    obtain ⟨C', h1, h2⟩ := heap_setCells_any g E fr vs (o + 1) (w.setCell ⟨g, o, none⟩ v) _ (heap_set h v)
    exact ⟨C', by simpa using h1, h2⟩
theorem heap_setCells {w : World} {g : Nat} {C : Array Value} {E : TypeId} {fr : Nat × Nat} (h : w.heap[g]? = some (.cells C E fr)) (vs : List Value) (hl : vs.length = C.size) :
    (w.setCells g 0 vs).heap[g]? = some (.cells vs.toArray E fr) := by
  obtain ⟨C', h1, h2⟩ := heap_setCells_any g E fr vs 0 w C h
  rw [h2]
  have : C' = vs.toArray := by
    apply Array.ext_getElem?
    intro j
    rw [← cell_at h2 j]
    by_cases hj : j < vs.length
    · have := World.cell?_setCells_in g vs 0 w (fun j hj => by rw [Nat.zero_add, cell_at h]; simp [hl ▸ hj]) j hj
      rw [Nat.zero_add] at this
      rw [this]; simp [hj]
    · rw [cell_at h2, Array.getElem?_eq_none (by omega), Array.getElem?_eq_none (by simp; omega)]
  rw [this]
theorem below_setCells {B g : Nat} (hg : B ≤ g) : ∀ (vs : List Value) (o : Nat) {a w : World}, Below B a w → Below B a (w.setCells g o vs)
  | [], _, _, _, h => h
  | v :: vs, o, _, _, h => below_setCells hg vs (o + 1) (h.setCell (p := ⟨g, o, none⟩) hg v)
theorem heap_setCells_far (g b : Nat) (hb : b ≠ g) : ∀ (vs : List Value) (o : Nat) (w : World), (w.setCells g o vs).heap[b]? = w.heap[b]?
  | [], _, _ => rfl
  | v :: vs, o, w => (heap_setCells_far g b hb vs (o + 1) _).trans (Below.heap_setCell w ⟨g, o, none⟩ v b hb)
theorem range_far {w : World} {b o : Nat} {cs : List Value} (h : w.rangeAt b o cs) {a : Addr} (hne : a.block ≠ b) (v : Value) : (w.setCell a v).rangeAt b o cs := fun j u hu => by
  rw [World.cell?_setCell_other w a v (b := ⟨b, o + j, none⟩) (fun e => hne (by rw [e]))]
  exact h j u hu
theorem heap_drew (w : World) : w.drew.heap = w.heap := rfl
end Go.Proofs.YtgebekklkodpaaaDoor

/-! Crc: plain: CRC registers -/
namespace Crc

/-- one bit of the register -/
def step1 (p r : Nat) : Nat := (r >>> 1) ^^^ (if r % 2 = 1 then p else 0)
def step4 (p r : Nat) : Nat := step1 p (step1 p (step1 p (step1 p r)))
def step8 (p r : Nat) : Nat := step4 p (step4 p r)
/-- the register behind one byte -/
def byte (p r x : Nat) : Nat := step8 p (r ^^^ x)
/-- the register behind bytes -/
def run (p r : Nat) (bs : List Nat) : Nat := bs.foldl (byte p) r
/-- n bytes that are 0 -/
def zeros (p n r : Nat) : Nat := match n with | 0 => r | n + 1 => zeros p n (step8 p r)

theorem xor_shift (a b k : Nat) : (a ^^^ b) >>> k = (a >>> k) ^^^ (b >>> k) := by
  apply Nat.eq_of_testBit_eq; intro i; simp [Nat.testBit_shiftRight, Nat.testBit_xor]

theorem xor_mod2 (a b : Nat) : (a ^^^ b) % 2 = (a % 2 + b % 2) % 2 := by
  have := @Nat.xor_mod_two_pow a b 1
  simp at this
  rw [this]
  have ha : a % 2 = 0 ∨ a % 2 = 1 := by omega
  have hb : b % 2 = 0 ∨ b % 2 = 1 := by omega
  rcases ha with h | h <;> rcases hb with h' | h' <;> rw [h, h'] <;> rfl

theorem xor4 (a b c d : Nat) : (a ^^^ b) ^^^ (c ^^^ d) = (a ^^^ c) ^^^ (b ^^^ d) := by
  rw [Nat.xor_assoc, ← Nat.xor_assoc b c d, Nat.xor_comm b c, Nat.xor_assoc c b d, ← Nat.xor_assoc]

theorem step1_xor (p a b : Nat) : step1 p (a ^^^ b) = step1 p a ^^^ step1 p b := by
  unfold step1
  rw [xor_shift, xor_mod2, xor4]
  congr 1
  have ha : a % 2 = 0 ∨ a % 2 = 1 := by omega
  have hb : b % 2 = 0 ∨ b % 2 = 1 := by omega
  rcases ha with h | h <;> rcases hb with h' | h' <;> simp [h, h']

theorem step4_xor (p a b : Nat) : step4 p (a ^^^ b) = step4 p a ^^^ step4 p b := by simp [step4, step1_xor]
theorem step8_xor (p a b : Nat) : step8 p (a ^^^ b) = step8 p a ^^^ step8 p b := by simp [step8, step4_xor]
theorem zeros_xor (p n a b : Nat) : zeros p n (a ^^^ b) = zeros p n a ^^^ zeros p n b := by
  induction n generalizing a b with
  | zero => rfl
  | succ n ih => simp only [zeros, step8_xor, ih]

theorem zeros_add (p n m r : Nat) : zeros p (n + m) r = zeros p m (zeros p n r) := by
  induction n generalizing r with
  | zero => simp [zeros]
  | succ n ih => rw [Nat.succ_add]; simp only [zeros, ih]

theorem zeros_succ' (p n r : Nat) : zeros p (n + 1) r = step8 p (zeros p n r) := by
  rw [zeros_add]; rfl

theorem run_xor (p : Nat) (bs : List Nat) (a b : Nat) : run p (a ^^^ b) bs = zeros p bs.length a ^^^ run p b bs := by
  induction bs generalizing a b with
  | nil => rfl
  | cons x bs ih =>
    show run p (byte p (a ^^^ b) x) bs = zeros p bs.length (step8 p a) ^^^ run p (byte p b x) bs
    rw [← ih, byte, byte, Nat.xor_assoc, step8_xor]

theorem run_append (p r : Nat) (asx bs : List Nat) : run p r (asx ++ bs) = run p (run p r asx) bs := by simp [run]

/-- P: the polynomial has bit 31 and no further one -/
theorem step1_lt {p r : Nat} (hp : p < 2 ^ 32) (hr : r < 2 ^ 32) : step1 p r < 2 ^ 32 := by
  unfold step1
  apply Nat.xor_lt_two_pow
  · rw [Nat.shiftRight_eq_div_pow]; omega
  · split <;> omega
theorem step4_lt {p r : Nat} (hp : p < 2 ^ 32) (hr : r < 2 ^ 32) : step4 p r < 2 ^ 32 := step1_lt hp (step1_lt hp (step1_lt hp (step1_lt hp hr)))
theorem step8_lt {p r : Nat} (hp : p < 2 ^ 32) (hr : r < 2 ^ 32) : step8 p r < 2 ^ 32 := step4_lt hp (step4_lt hp hr)
theorem zeros_lt {p r : Nat} (n : Nat) (hp : p < 2 ^ 32) (hr : r < 2 ^ 32) : zeros p n r < 2 ^ 32 := by
  induction n generalizing r with
  | zero => exact hr
  | succ n ih => exact ih (step8_lt hp hr)
theorem byte_lt {p r x : Nat} (hp : p < 2 ^ 32) (hr : r < 2 ^ 32) (hx : x < 256) : byte p r x < 2 ^ 32 :=
  step8_lt hp (Nat.xor_lt_two_pow hr (by omega))
theorem run_lt {p r : Nat} {bs : List Nat} (hp : p < 2 ^ 32) (hr : r < 2 ^ 32) (hb : ∀ x ∈ bs, x < 256) : run p r bs < 2 ^ 32 := by
  induction bs generalizing r with
  | nil => exact hr
  | cons x bs ih => exact ih (byte_lt hp hr (hb x (by simp))) (fun y hy => hb y (by simp [hy]))

theorem step1_ne {p r : Nat} (hp : p.testBit 31 = true) (hr : r < 2 ^ 32) (h : r ≠ 0) : step1 p r ≠ 0 := by
  intro h0
  have hb : (r >>> 1).testBit 31 = false := by
    rw [Nat.testBit_shiftRight]; exact Nat.testBit_lt_two_pow (by omega)
  unfold step1 at h0
  split at h0
  · have : ((r >>> 1) ^^^ p).testBit 31 = true := by rw [Nat.testBit_xor, hb, hp]; rfl
    rw [h0] at this; simp at this
  · rename_i hm
    simp only [Nat.xor_zero, Nat.shiftRight_eq_div_pow] at h0
    omega
theorem step4_ne {p r : Nat} (hp32 : p < 2 ^ 32) (hp : p.testBit 31 = true) (hr : r < 2 ^ 32) (h : r ≠ 0) : step4 p r ≠ 0 := by
  have l1 := step1_lt hp32 hr
  have l2 := step1_lt hp32 l1
  have l3 := step1_lt hp32 l2
  exact step1_ne hp l3 (step1_ne hp l2 (step1_ne hp l1 (step1_ne hp hr h)))
theorem step8_ne {p r : Nat} (hp32 : p < 2 ^ 32) (hp : p.testBit 31 = true) (hr : r < 2 ^ 32) (h : r ≠ 0) : step8 p r ≠ 0 :=
  step4_ne hp32 hp (step4_lt hp32 hr) (step4_ne hp32 hp hr h)
theorem zeros_ne {p r : Nat} (n : Nat) (hp32 : p < 2 ^ 32) (hp : p.testBit 31 = true) (hr : r < 2 ^ 32) (h : r ≠ 0) : zeros p n r ≠ 0 := by
  induction n generalizing r with
  | zero => exact h
  | succ n ih => exact ih (step8_lt hp32 hr) (step8_ne hp32 hp hr h)
theorem xor_ne {a b : Nat} (h : a ≠ b) : a ^^^ b ≠ 0 := by
  intro h0; apply h; apply Nat.eq_of_testBit_eq; intro i
  have := congrArg (fun x => Nat.testBit x i) h0
  simp [Nat.testBit_xor] at this; exact this
theorem xor_eq_zero {a b : Nat} (h : a ^^^ b = 0) : a = b := Classical.byContradiction fun hh => xor_ne hh h
theorem zeros_inj {p a b : Nat} (n : Nat) (hp32 : p < 2 ^ 32) (hp : p.testBit 31 = true) (ha : a < 2 ^ 32) (hb : b < 2 ^ 32) (h : zeros p n a = zeros p n b) : a = b := by
  refine Classical.byContradiction fun hh => zeros_ne n hp32 hp (Nat.xor_lt_two_pow ha hb) (xor_ne hh) ?_
  rw [zeros_xor, h, Nat.xor_self]

/-- one other byte: another register -/
theorem run_turn {p r x y : Nat} {asx bs : List Nat} (hp32 : p < 2 ^ 32) (hp : p.testBit 31 = true) (hr : r < 2 ^ 32)
    (ha : ∀ z ∈ asx, z < 256) (hx : x < 256) (hy : y < 256)
    (h : run p r (asx ++ x :: bs) = run p r (asx ++ y :: bs)) : x = y := by
  rw [run_append, run_append] at h
  have hs : run p r asx < 2 ^ 32 := run_lt hp32 hr ha
  generalize run p r asx = s at *
  change run p (byte p s x) bs = run p (byte p s y) bs at h
  have e : byte p s x = (byte p s x ^^^ byte p s y) ^^^ byte p s y := by rw [Nat.xor_assoc, Nat.xor_self, Nat.xor_zero]
  rw [e, run_xor] at h
  have hz : zeros p bs.length (byte p s x ^^^ byte p s y) = 0 := by
    have := congrArg (· ^^^ run p (byte p s y) bs) h
    simpa [Nat.xor_assoc] using this
  have hlt := Nat.xor_lt_two_pow (byte_lt hp32 hs hx) (byte_lt hp32 hs hy)
  have h0 : byte p s x ^^^ byte p s y = 0 := Classical.byContradiction fun hh => zeros_ne _ hp32 hp hlt hh hz
  unfold byte at h0
  rw [← step8_xor, xor4, Nat.xor_self, Nat.zero_xor] at h0
  exact Classical.byContradiction fun hh => step8_ne hp32 hp (Nat.xor_lt_two_pow (by omega) (by omega)) (xor_ne hh) h0

/-! the nibble tables -/
theorem low4 (p r : Nat) (h : r % 16 = 0) : step4 p r = r / 16 := by
  unfold step4 step1
  simp only [Nat.shiftRight_eq_div_pow]
  rw [if_neg (by omega : ¬ r % 2 = 1)]
  simp only [Nat.xor_zero]
  rw [if_neg (by omega)]
  simp only [Nat.xor_zero]
  rw [if_neg (by omega)]
  simp only [Nat.xor_zero]
  rw [if_neg (by omega)]
  simp only [Nat.xor_zero]
  omega
theorem split4 (r : Nat) : r = (16 * (r / 16)) ^^^ (r % 16) := by
  have h := (Nat.two_pow_add_eq_or_of_lt (i := 4) (b := r % 16) (by omega) (r / 16))
  have h2 : (16 * (r / 16)) ^^^ (r % 16) = (16 * (r / 16)) ||| (r % 16) := by
    apply Nat.eq_of_testBit_eq; intro i
    rw [Nat.testBit_xor, Nat.testBit_or]
    by_cases hi : i < 4
    · have : (16 * (r / 16)).testBit i = false := by
        rw [show 16 * (r / 16) = 2 ^ 4 * (r / 16) from rfl, Nat.testBit_two_pow_mul]
        simp; omega
      rw [this]; simp
    · have : (r % 16).testBit i = false := Nat.testBit_lt_two_pow (Nat.lt_of_lt_of_le (show r % 16 < 2 ^ 4 by omega) (Nat.pow_le_pow_right (by omega) (by omega)))
      rw [this]; simp
  rw [h2, show 16 * (r / 16) = 2 ^ 4 * (r / 16) from rfl, ← h]
  omega
/-- four steps by a table -/
theorem step4_tab (p r : Nat) : step4 p r = (r / 16) ^^^ step4 p (r % 16) := by
  conv => lhs; rw [split4 r, step4_xor, low4 p (16 * (r / 16)) (by omega)]
  congr 1
  omega

def polyZip : Nat := 0xEDB88320
def polySeal : Nat := 0x82F63B78
def zipTable : List Nat := [
  0x00000000, 0x1db71064, 0x3b6e20c8, 0x26d930ac, 0x76dc4190, 0x6b6b51f4, 0x4db26158, 0x5005713c,
  0xedb88320, 0xf00f9344, 0xd6d6a3e8, 0xcb61b38c, 0x9b64c2b0, 0x86d3d2d4, 0xa00ae278, 0xbdbdf21c]
def sealTable : List Nat := [
  0x00000000, 0x105ec76f, 0x20bd8ede, 0x30e349b1, 0x417b1dbc, 0x5125dad3, 0x61c69362, 0x7198540d,
  0x82f63b78, 0x92a8fc17, 0xa24bb5a6, 0xb21572c9, 0xc38d26c4, 0xd3d3e1ab, 0xe330a81a, 0xf36e6f75]
theorem zip_tab : ∀ k, k < 16 → zipTable.getD k 0 = step4 polyZip k := by decide +kernel
theorem seal_tab : ∀ k, k < 16 → sealTable.getD k 0 = step4 polySeal k := by decide +kernel
theorem zip_step4 (r : Nat) : (r / 16) ^^^ zipTable.getD (r % 16) 0 = step4 polyZip r := by
  rw [step4_tab, zip_tab _ (by omega)]
theorem seal_step4 (r : Nat) : (r / 16) ^^^ sealTable.getD (r % 16) 0 = step4 polySeal r := by
  rw [step4_tab, seal_tab _ (by omega)]

/-! linear maps by their columns -/
def Lin (L : Nat → Nat) : Prop := ∀ a b, L (a ^^^ b) = L a ^^^ L b
theorem Lin.zero {L : Nat → Nat} (h : Lin L) : L 0 = 0 := by
  have := h 0 0
  simpa using this
theorem lin_zeros (p n : Nat) : Lin (zeros p n) := zeros_xor p n
theorem mod_succ (a i : Nat) : a % 2 ^ (i + 1) = (a % 2 ^ i) ^^^ (a / 2 ^ i % 2 * 2 ^ i) := by
  apply Nat.eq_of_testBit_eq; intro j
  rw [Nat.testBit_xor, Nat.testBit_mod_two_pow, Nat.testBit_mod_two_pow, Nat.mul_comm, Nat.testBit_two_pow_mul]
  rcases Nat.lt_trichotomy j i with h | h | h
  · simp [h, show j < i + 1 by omega, show ¬ i ≤ j by omega]
  · subst h
    simp [Nat.testBit, Nat.shiftRight_eq_div_pow]
  · have h2 : (a / 2 ^ i % 2).testBit (j - i) = false := Nat.testBit_lt_two_pow (Nat.lt_of_lt_of_le (show a / 2 ^ i % 2 < 2 ^ 1 by omega) (Nat.pow_le_pow_right (by omega) (by omega)))
    simp [h2, show ¬ j < i by omega, show ¬ j < i + 1 by omega]
theorem lin_odd {L : Nat → Nat} (h : Lin L) (a i : Nat) (ho : a / 2 ^ i % 2 = 1) : L (a % 2 ^ (i + 1)) = L (a % 2 ^ i) ^^^ L (2 ^ i) := by
  rw [mod_succ, ho, h, Nat.one_mul]
theorem lin_even {L : Nat → Nat} (h : Lin L) (a i : Nat) (he : a / 2 ^ i % 2 = 0) : L (a % 2 ^ (i + 1)) = L (a % 2 ^ i) := by
  rw [mod_succ, he, h, Nat.zero_mul, h.zero, Nat.xor_zero]
attribute [irreducible] zeros
end Crc

/-! Roll: roll -/
namespace Go.Proofs.YtgebekklkodpaaaDoor
open Go.RowKit


/-- bytes in memory -/
def BytesAt (w : World) (ao : Option Addr) (bs : List Nat) : Prop :=
  (∀ x ∈ bs, x < 256) ∧ (bs = [] ∨ ∃ b off : Nat, ao = some ⟨b, off, none⟩ ∧ ∀ k x : Nat, bs[k]? = some x → w.cell? ⟨b, off + k, none⟩ = some (.int .u8 x))
/-- the table of the sum -/
def Zip (w : World) : Prop := ∀ k : Nat, k < 16 → w.cell? ⟨16, k, none⟩ = some (.int .u32 (Crc.zipTable.getD k 0 : Nat))

theorem zip_lt (k : Nat) (h : k < 16) : Crc.zipTable.getD k 0 < 4294967296 := by
  rw [Crc.zip_tab k h]
  exact Crc.step4_lt (by decide) (by omega)

/-- what one nibble's step computes -/
theorem zip_step (w : World) (Z : Zip w) (s : Nat) (hs : s < 4294967296) :
    ∃ t : Nat, t < 4294967296 ∧ w.cell? ⟨16, s % 16, none⟩ = some (.int .u32 t) ∧ bits .and .u32 (s : Int) 15 = ((s % 16 : Nat) : Int) ∧
      bits .xor .u32 ((s : Int) / 16) (t : Int) = (Crc.step4 Crc.polyZip s : Nat) ∧ Crc.step4 Crc.polyZip s < 4294967296 := by
  refine ⟨Crc.zipTable.getD (s % 16) 0, zip_lt _ (by omega), Z _ (by omega), ?_, ?_, Crc.step4_lt (by decide) hs⟩
  · have := u32_and_nat s 15 hs (by omega)
    rw [nat_mask4] at this
    exact this
  · have h := u32_xor_nat (s / 16) (Crc.zipTable.getD (s % 16) 0) (by omega) (zip_lt _ (by omega))
    rw [Crc.zip_step4] at h
    rw [← h]
    simp

theorem run_take (p r : Nat) (bs : List Nat) (k x : Nat) (h : bs[k]? = some x) : Crc.run p r (bs.take (k + 1)) = Crc.byte p (Crc.run p r (bs.take k)) x := by
  rw [List.take_add_one, h, Crc.run_append]; rfl

set_option maxHeartbeats 400000 in
theorem roll_some (w : World) (Z : Zip w) (r : Nat) (hr : r < 4294967296) (b off cap : Nat) (bs : List Nat) (hb : ∀ x ∈ bs, x < 256) (hl : bs.length ≤ 9223372036854775807)
    (hc : ∀ k x : Nat, bs[k]? = some x → w.cell? ⟨b, off + k, none⟩ = some (.int .u8 x)) :
    Calls Tryd.prog 51 #[.int .u32 r, .slice (some ⟨b, off, none⟩) bs.length cap] w fun e w' => e = .returned (.int .u32 (Crc.run Crc.polyZip r bs : Nat)) ∧ w = w' := by
  have HC := hide hc
  clear hc
  go_enter Tryd.func51, Tryd.ntmps51
  go_wp2
  go_loop [0, 9] (fun v i => ∃ k s : Nat, k ≤ bs.length ∧ s < 4294967296 ∧ i = .int .i64 k ∧ v = .int .u32 s ∧ s = Crc.run Crc.polyZip r (bs.take k)) (fun _ i => bs.length - (intOf i).toNat)
  case atStart => exact ⟨0, r, Nat.zero_le _, hr, rfl, rfl, rfl⟩
  case round =>
    obtain ⟨k, s, hk, hs, rfl, rfl, hS⟩ := hrel
    have HS := hide hS
    clear hS
    by_cases hlt : k < bs.length
    · obtain ⟨x, hx⟩ : ∃ x, bs[k]? = some x := ⟨_, List.getElem?_eq_getElem hlt⟩
      have hx256 : x < 256 := hb x (List.mem_of_getElem? hx)
      have hcell := HC.out k x hx
      have HX := hide hx
      clear hx
      have e1 := u32_xor_nat s x hs (by omega)
      have l1 : s ^^^ x < 4294967296 := Nat.xor_lt_two_pow (n := 32) hs (by omega)
      obtain ⟨s1, hs1⟩ : ∃ s1, s1 = s ^^^ x := ⟨_, rfl⟩
      rw [← hs1] at e1 l1
      have HS1 := hide hs1
      clear hs1
      obtain ⟨t1, ht1, hct1, ea1, ex1, l2⟩ := zip_step w Z s1 l1
      generalize hs2 : Crc.step4 Crc.polyZip s1 = s2 at ex1 l2
      have HS2 := hide hs2
      clear hs2
      obtain ⟨t2, ht2, hct2, ea2, ex2, l3⟩ := zip_step w Z s2 l2
      generalize hs3 : Crc.step4 Crc.polyZip s2 = s3 at ex2 l3
      have HS3 := hide hs3
      clear hs3
      go_wp2
      go_round
      case rel => exact ⟨k + 1, s3, hlt, l3, by go_num, rfl, by rw [run_take _ _ _ _ _ HX.out, ← HS.out, Crc.byte, ← HS1.out, Crc.step8, HS2.out, HS3.out]⟩
      case measure => simp [intOf]; omega
    · go_wp2
      go_ret
      exact ⟨ret_int (by rw [HS.out, List.take_of_length_le (by omega)]), rfl⟩

theorem roll_none (w : World) (r : Nat) (ao : Option Addr) (cap : Nat) :
    Calls Tryd.prog 51 #[.int .u32 r, .slice ao 0 cap] w fun e w' => e = .returned (.int .u32 r) ∧ w = w' := by
  go_enter Tryd.func51, Tryd.ntmps51
  go_wp2
  refine wp_loop_rounds 1 ?_
  rw [rounds_succ]
  go_wp2
  go_ret
  exact ⟨rfl, rfl⟩

theorem roll_any (w : World) (Z : Zip w) (r : Nat) (hr : r < 4294967296) (ao : Option Addr) (cap : Nat) (bs : List Nat) (hB : BytesAt w ao bs) (hl : bs.length ≤ 9223372036854775807) :
    Calls Tryd.prog 51 #[.int .u32 r, .slice ao bs.length cap] w fun e w' => e = .returned (.int .u32 (Crc.run Crc.polyZip r bs : Nat)) ∧ w = w' := by
  rcases hB with ⟨h1, rfl | ⟨b, off, rfl, h2⟩⟩
  · exact roll_none w r ao cap
  · exact roll_some w Z r hr b off cap bs h1 hl h2
end Go.Proofs.YtgebekklkodpaaaDoor

/-! Of: linear.of -/
namespace Go.Proofs.YtgebekklkodpaaaDoor
open Go.RowKit

/-- the first i places of an array of 32 -/
def part (f : Nat → Nat) (i : Nat) : List Value := (List.range 32).map fun k => Value.int .u32 (if k < i then f k else 0 : Nat)
/-- a map's columns, as an array's cells -/
def cols (L : Nat → Nat) : List Value := part (fun i => L (2 ^ i)) 32
theorem part_zero (f : Nat → Nat) : (part f 0).toArray = (List.replicate 32 (Value.int .u32 0)).toArray := rfl
theorem part_len (f : Nat → Nat) (i : Nat) : (part f i).length = 32 := by simp [part]
theorem cols_len (L : Nat → Nat) : (cols L).length = 32 := part_len _ _
theorem part_one (f : Nat → Nat) (i : Nat) : ∀ v ∈ part f i, v.oneCell' = true := by
  intro v hv
  obtain ⟨k, _, rfl⟩ := List.mem_map.1 hv
  rfl
theorem part_cell (f : Nat → Nat) (i k : Nat) (h : k < 32) : (part f i).toArray[k]? = some (.int .u32 (if k < i then f k else 0 : Nat)) := by
  simp [part, h]
theorem cols_cell (L : Nat → Nat) (k : Nat) (h : k < 32) : (cols L).toArray[k]? = some (.int .u32 (L (2 ^ k) : Nat)) := by
  unfold cols
  rw [part_cell _ _ _ h, if_pos h]
theorem part_set (f : Nat → Nat) (i : Nat) : (part f i).toArray.setIfInBounds i (.int .u32 (f i : Nat)) = (part f (i + 1)).toArray := by
  apply Array.ext_getElem?
  intro k
  by_cases hk : k < 32
  · rw [Array.getElem?_setIfInBounds, part_cell _ _ _ hk, part_cell _ _ _ hk]
    by_cases h : i = k
    · subst h; simp [part_len, hk]
    · rw [if_neg h]
      by_cases h2 : k < i
      · rw [if_pos h2, if_pos (by omega)]
      · rw [if_neg h2, if_neg (by omega)]
  · rw [Array.getElem?_eq_none (by simp [part_len]; omega), Array.getElem?_eq_none (by simp [part_len]; omega)]
theorem cols_congr {L M : Nat → Nat} (h : ∀ k, L (2 ^ k) = M (2 ^ k)) : cols L = cols M := by
  unfold cols
  rw [show (fun i => L (2 ^ i)) = (fun i => M (2 ^ i)) from funext h]

structure Map32 (L : Nat → Nat) : Prop where
  lin : Crc.Lin L
  lt : ∀ a, a < 4294967296 → L a < 4294967296

theorem of_step (L : Nat → Nat) (h : Map32 L) (r i : Nat) (hr : r < 4294967296) (hi : i < 32) (ho : r / 2 ^ i % 2 = 1) :
    bits .xor .u32 (L (r % 2 ^ i) : Nat) (L (2 ^ i) : Nat) = (L (r % 2 ^ (i + 1)) : Nat) := by
  have h1 : r % 2 ^ i < 4294967296 := Nat.lt_of_le_of_lt (Nat.mod_le _ _) hr
  have h2 : 2 ^ i < 4294967296 := Nat.pow_lt_pow_right (a := 2) (m := i) (n := 32) (by omega) hi
  rw [u32_xor_nat _ _ (h.lt _ h1) (h.lt _ h2), Crc.lin_odd h.lin r i ho]

theorem shr_lt (r i : Nat) (hr : r < 4294967296) (h : r / 2 ^ i ≠ 0) : i < 32 := by
  refine Nat.lt_of_not_le fun hge => h ?_
  have : 2 ^ 32 ≤ 2 ^ i := Nat.pow_le_pow_right (by omega) hge
  exact Nat.div_eq_of_lt (by omega)

set_option maxHeartbeats 400000 in
theorem of_any (w : World) (L : Nat → Nat) (hM : Map32 L) (r : Nat) (hr : r < 4294967296) :
    Calls Tryd.prog 52 #[.agg (cols L).toArray, .int .u32 r] w fun e w' => e = .returned (.int .u32 (L r : Nat)) ∧ w' = w.alloc (.cells (cols L).toArray 87) := by
  have HM := hide hM
  clear hM
  go_enter Tryd.func52, Tryd.ntmps52
  go_wp2
  go_loop [1, 5, 6] (fun g o c => ∃ i q t : Nat, i ≤ 32 ∧ q < 4294967296 ∧ g = .int .u32 q ∧ c = .int .i64 i ∧ o = .int .u32 t ∧ q = r / 2 ^ i ∧ t = L (r % 2 ^ i)) (fun _ _ c => 32 - (intOf c).toNat)
  case atStart => exact ⟨0, r, 0, by omega, hr, rfl, rfl, rfl, by simp, by simp [Nat.mod_one, HM.out.lin.zero]⟩
  case round =>
    obtain ⟨i, q, t, hi, hq, rfl, rfl, rfl, hq', ht⟩ := hrel
    by_cases h0 : q = 0
    · have hz : ((q : Int) != 0) = false := by simp [h0]
      have hfin : t = L r := by rw [ht]; congr 1; exact Nat.mod_eq_of_lt (by have := Nat.div_eq_zero_iff.1 (hq'.symm.trans h0); have hp := Nat.pow_pos (n := i) (show 0 < 2 by omega); omega)
      have HF := hide hfin
      clear h0 hfin hq' ht
      go_wp2
      go_ret
      exact ⟨ret_int (by rw [HF.out]), rfl⟩
    · have hz : ((q : Int) != 0) = true := by simp; omega
      have hi32 : i < 32 := shr_lt r i hr (by rw [← hq']; exact h0)
      have hcell := (cell_at (heap_alloc_new w (.cells (cols L).toArray 87)) i).trans (cols_cell L i hi32)
      have e1 : bits .and .u32 (q : Int) 1 = ((q % 2 : Nat) : Int) := by
        have := u32_and_nat q 1 hq (by omega)
        rw [nat_mask1] at this
        exact this
      have e2 : q / 2 = r / 2 ^ (i + 1) := by rw [hq', Nat.div_div_eq_div_mul]; rfl
      have hq2 : q / 2 < 4294967296 := by omega
      by_cases hodd : q % 2 = 1
      · have e3 := of_step L HM.out r i hr hi32 (by rw [← hq']; exact hodd)
        rw [← ht] at e3
        generalize L (2 ^ i) = c at hcell e3
        generalize hnt : L (r % 2 ^ (i + 1)) = t' at e3
        rw [hodd] at e1
        have H2 := hide e2
        have HT := hide hnt
        clear e2 hnt hq' ht h0 hodd
        go_wp2
        go_round
        case rel => exact ⟨i + 1, q / 2, t', by omega, hq2, by simp, by go_num, rfl, H2.out, HT.out.symm⟩
        case measure => simp [intOf]; omega
      · have hev : q % 2 = 0 := by omega
        have e3 := Crc.lin_even HM.out.lin r i (by rw [← hq']; exact hev)
        rw [hev] at e1
        have H2 := hide e2
        have HT := hide (ht.trans e3.symm)
        clear e2 e3 hq' ht h0 hodd hev
        go_wp2
        go_round
        case rel => exact ⟨i + 1, q / 2, t, by omega, hq2, by simp, by go_num, rfl, H2.out, HT.out⟩
        case measure => simp [intOf]; omega
end Go.Proofs.YtgebekklkodpaaaDoor

/-! Ref: the reference's step, linear.at -/
namespace Go.Proofs.YtgebekklkodpaaaDoor
open Go.RowKit

def itn (p : Nat) : Nat → Nat → Nat | 0, r => r | k + 1, r => Crc.step1 p (itn p k r)
theorem it8 (p r : Nat) : itn p 8 r = Crc.step8 p r := by simp [itn, Crc.step8, Crc.step4]
theorem u32_and1 (q : Nat) (h : q < 4294967296) : bits .and .u32 (q : Int) 1 = ((q % 2 : Nat) : Int) := by
  have := u32_and_nat q 1 h (by omega)
  rw [nat_mask1] at this
  exact this

set_option maxHeartbeats 400000 in
theorem ref_step (w : World) (p r x : Nat) (hp : p < 4294967296) (hr : r < 4294967296) (hx : x < 256) :
    Calls Tryd.prog 54 #[.int .u32 r, .int .u8 x, .int .u32 p] w fun e w' => e = .returned (.int .u32 (Crc.byte p r x : Nat)) ∧ w = w' := by
  have e0 := u32_xor_nat r x hr (by omega)
  have l0 : r ^^^ x < 4294967296 := Nat.xor_lt_two_pow (n := 32) hr (by omega)
  obtain ⟨s0, hs0⟩ : ∃ s0, s0 = r ^^^ x := ⟨_, rfl⟩
  rw [← hs0] at e0 l0
  have HS0 := hide hs0
  clear hs0
  go_enter Tryd.func54, Tryd.ntmps54
  go_wp2
  go_loop [0, 7] (fun v c => ∃ k s : Nat, k ≤ 8 ∧ s < 4294967296 ∧ c = .int .i64 k ∧ v = .int .u32 s ∧ s = itn p k s0) (fun _ c => 8 - (intOf c).toNat)
  case atStart => exact ⟨0, s0, by omega, l0, rfl, rfl, rfl⟩
  case round =>
    obtain ⟨k, s, hk, hs, rfl, rfl, hS⟩ := hrel
    have HS := hide hS
    clear hS
    by_cases hlt : k < 8
    · have e1 := u32_and1 s hs
      by_cases ho : s % 2 = 1
      · rw [ho] at e1
        have e2 : bits .xor .u32 ((s : Int) / 2) (p : Int) = (Crc.step1 p s : Nat) := by
          have h := u32_xor_nat (s / 2) p (by omega) hp
          rw [Crc.step1, if_pos ho, Nat.shiftRight_eq_div_pow, ← h]
          simp
        have l2 : Crc.step1 p s < 4294967296 := Crc.step1_lt hp hs
        generalize hs2 : Crc.step1 p s = s2 at e2 l2
        have HS2 := hide hs2
        clear hs2 ho
        go_wp2
        go_round
        case rel => exact ⟨k + 1, s2, hlt, l2, by go_num, rfl, by rw [itn, ← HS.out, HS2.out]⟩
        case measure => simp [intOf]; omega
      · have ho' : s % 2 = 0 := by omega
        rw [ho'] at e1
        have hs2 : s / 2 = Crc.step1 p s := by rw [Crc.step1, if_neg ho, Nat.shiftRight_eq_div_pow]; simp
        have HS2 := hide hs2
        clear hs2 ho ho'
        go_wp2
        go_round
        case rel => exact ⟨k + 1, s / 2, hlt, by omega, by go_num, by simp, by rw [itn, ← HS.out, HS2.out]⟩
        case measure => simp [intOf]; omega
    · obtain rfl : k = 8 := by omega
      go_wp2
      go_ret
      exact ⟨ret_int (by rw [HS.out, it8, HS0.out]; rfl), rfl⟩

theorem u32_shr_bit (r i : Nat) (hr : r < 4294967296) : bits .and .u32 ((r : Int) / 2 ^ i) 1 = ((r / 2 ^ i % 2 : Nat) : Int) := by
  have h := u32_and1 (r / 2 ^ i) (Nat.lt_of_le_of_lt (Nat.div_le_self _ _) hr)
  rw [← h]; simp

set_option maxHeartbeats 400000 in
theorem ref_at (w : World) (L : Nat → Nat) (hM : Map32 L) (r : Nat) (hr : r < 4294967296) :
    Calls Tryd.prog 55 #[.agg (cols L).toArray, .int .u32 r] w fun e w' => e = .returned (.int .u32 (L r : Nat)) ∧ w' = w.alloc (.cells (cols L).toArray 90) := by
  have HM := hide hM
  clear hM
  go_enter Tryd.func55, Tryd.ntmps55
  go_wp2
  go_loop [5, 6] (fun o c => ∃ i t : Nat, i ≤ 32 ∧ c = .int .i64 i ∧ o = .int .u32 t ∧ t = L (r % 2 ^ i)) (fun _ c => 32 - (intOf c).toNat)
  case atStart => exact ⟨0, 0, by omega, rfl, rfl, by simp [Nat.mod_one, HM.out.lin.zero]⟩
  case round =>
    obtain ⟨i, t, hi, rfl, rfl, ht⟩ := hrel
    by_cases hlt : i < 32
    · have e1 := u32_shr_bit r i hr
      have hcell := (cell_at (heap_alloc_new w (.cells (cols L).toArray 90)) i).trans (cols_cell L i hlt)
      by_cases hodd : r / 2 ^ i % 2 = 1
      · have e3 := of_step L HM.out r i hr hlt hodd
        rw [← ht] at e3
        generalize L (2 ^ i) = c at hcell e3
        generalize hnt : L (r % 2 ^ (i + 1)) = t' at e3
        rw [hodd] at e1
        have HT := hide hnt
        clear hnt ht hodd
        go_wp2
        go_round
        case rel => exact ⟨i + 1, t', by omega, by go_num, rfl, HT.out.symm⟩
        case measure => simp [intOf]; omega
      · have hev : r / 2 ^ i % 2 = 0 := by omega
        have e3 := Crc.lin_even HM.out.lin r i hev
        rw [hev] at e1
        have HT := hide (ht.trans e3.symm)
        clear e3 ht hodd hev
        go_wp2
        go_round
        case rel => exact ⟨i + 1, t, by omega, by go_num, rfl, HT.out⟩
        case measure => simp [intOf]; omega
    · obtain rfl : i = 32 := by omega
      have hfin : t = L r := by rw [ht, Nat.mod_eq_of_lt hr]
      have HF := hide hfin
      clear hfin ht
      go_wp2
      go_ret
      exact ⟨ret_int (by rw [HF.out]), rfl⟩
end Go.Proofs.YtgebekklkodpaaaDoor

/-! Uv: plain: a number's bytes -/
namespace Uv
/-- seven bits a byte, the lowest first; at most f + 1 bytes -/
def uvf : Nat → Nat → List Nat
  | 0, x => [x]
  | f + 1, x => if x < 128 then [x] else (x % 128 + 128) :: uvf f (x / 128)
def uv (x : Nat) : List Nat := uvf 9 x
theorem uvf_small (f x : Nat) (h : x < 128) : uvf f x = [x] := by
  cases f with
  | zero => rfl
  | succ f => rw [uvf, if_pos h]
theorem uvf_great (f x : Nat) (h : 128 ≤ x) : uvf (f + 1) x = (x % 128 + 128) :: uvf f (x / 128) := by rw [uvf, if_neg (by omega)]
theorem uvf_lt : ∀ (f x : Nat), x < 128 ^ (f + 1) → ∀ y ∈ uvf f x, y < 256
  | 0, x, h, y, hy => by
    simp [uvf] at hy
    subst hy
    simp at h
    omega
  | f + 1, x, h, y, hy => by
    by_cases hx : x < 128
    · rw [uvf_small _ _ hx] at hy; simp at hy; omega
    · rw [uvf_great _ _ (by omega)] at hy
      rcases List.mem_cons.1 hy with rfl | hy
      · omega
      · refine uvf_lt f (x / 128) ?_ y hy
        rw [Nat.div_lt_iff_lt_mul (by omega)]
        rw [Nat.pow_succ] at h
        exact h
theorem uv_lt (x : Nat) (h : x < 18446744073709551616) : ∀ y ∈ uv x, y < 256 := uvf_lt 9 x (by omega)
theorem uvf_len : ∀ (f x : Nat), (uvf f x).length ≤ f + 1 ∧ 1 ≤ (uvf f x).length
  | 0, x => by simp [uvf]
  | f + 1, x => by
    have := uvf_len f (x / 128)
    rw [uvf]
    split <;> simp <;> omega
theorem uv_len (x : Nat) : (uv x).length ≤ 10 ∧ 1 ≤ (uv x).length := uvf_len 9 x
theorem or128 : ∀ y, y < 256 → y ||| 128 = y % 128 + 128 := by decide +kernel
/-- the four bytes of a word -/
def word (v : Nat) : List Nat := [v % 256, v / 256 % 256, v / 65536 % 256, v / 16777216 % 256]
/-- the numbers of 64 bits are below this -/
def u64 : Nat := 18446744073709551616
theorem u64_eq : u64 = 18446744073709551616 := rfl
theorem half_u64 {x : Nat} (k : Nat) (h : x < u64) : x / k < u64 := Nat.lt_of_le_of_lt (Nat.div_le_self _ _) h
theorem start_u64 {x : Nat} (h : x < u64) : x < 128 ^ (9 + 1) := by rw [u64_eq] at h; omega
end Uv

/-! Wr: codec.Writer -/
namespace Go.Proofs.YtgebekklkodpaaaDoor
open Go.RowKit

def u8s (bs : List Nat) : List Value := bs.map fun (n : Nat) => Value.int .u8 (n : Int)
theorem u8s_len (bs : List Nat) : (u8s bs).length = bs.length := by simp [u8s]
theorem u8s_app (xs bs : List Nat) : u8s (xs ++ bs) = u8s xs ++ u8s bs := by simp [u8s]
theorem u8s_one (bs : List Nat) : ∀ u ∈ u8s bs, u.oneCell' = true := by
  intro u hu
  obtain ⟨n, _, rfl⟩ := List.mem_map.1 hu
  rfl
theorem info5 : (Tryd.prog.info? 5).map (fun i => (i.zero, i.size, i.bytes)) = some (some (.int .u8 0), 1, 1) := by kernel_rfl

theorem one_new (w : World) (u : Value) (E : TypeId) : ∀ (j : Nat) (x : Value), [u][j]? = some x → (w.alloc (.cells #[u] E)).cell? ((⟨w.heap.size, 0, none⟩ : Addr).add j) = some x := by
  intro j x hx
  match j, hx with
  | 0, hx => simp at hx; subst hx; simp [Addr.add]

/-- a writer at block p: it holds these bytes; all that it holds lies from block B on -/
def WriterIs (w : World) (B p : Nat) (bs : List Nat) : Prop :=
  B ≤ p ∧ ∃ v, w.heap[p]? = some (.cells #[v] 122 (0, 0)) ∧ w.ownsRow B 5 1 v bs.length (u8s bs)

theorem row_block {w : World} {B : Nat} {v : Value} {n : Nat} {xs : List Value} {p : Nat} {u : Value} {E : TypeId} (hE : E ≠ 5) (h : w.ownsRow B 5 1 v n xs) (hp : w.heap[p]? = some (.cells #[u] E (0, 0))) : v.ownBlock ≠ some p := by
  rcases h.2 with ⟨rfl, _⟩ | ⟨g, cap, cur, rfl, _, hg, _⟩
  · simp [Value.ownBlock]
  · simp only [Value.ownBlock]
    intro e
    obtain rfl := Option.some.inj e
    rw [hg] at hp
    simp only [Option.some.injEq, Obj.cells.injEq] at hp
    exact hE hp.2.1.symm

theorem WriterIs.lt {w : World} {B p : Nat} {bs : List Nat} (h : WriterIs w B p bs) : p < w.heap.size := by
  obtain ⟨_, v, h, _⟩ := h
  exact heap_lt h

/-- behind an append and the store of what it made -/
theorem writer_grown {w w1 : World} {B p : Nat} {v v' : Value} {xs ys : List Nat} (hB : B ≤ p) (hp : w.heap[p]? = some (.cells #[v] 122 (0, 0))) (hv : w.ownsRow B 5 1 v xs.length (u8s xs))
    (hown : w1.ownsRow B 5 1 v' ys.length (u8s ys)) (hg : w.grownBy w1 v.ownBlock) (hsz : B ≤ w.heap.size) :
    WriterIs (w1.setCell ⟨p, 0, none⟩ v') B p ys ∧ Below B w (w1.setCell ⟨p, 0, none⟩ v') := by
  have hne := row_block (by decide) hv hp
  have hp1 : w1.heap[p]? = some (.cells #[v] 122 (0, 0)) := (hg.block p (heap_lt hp) (fun e => hne e.symm)).trans hp
  refine ⟨⟨hB, v', one_setCell hp1, ownsRow_setCell_other hown (row_block (by decide) hown hp1) _⟩, ?_⟩
  refine below_set ((Below.refl B w).grown hg hsz (fun k hk => ?_)) hB _
  exact (hv.lt k hk).1

theorem new_writer (w : World) : Calls Tryd.prog 57 #[] w fun e w' => e = .returned (.pointer (some ⟨w.heap.size, 0, none⟩)) ∧ WriterIs w' w.heap.size w.heap.size [] ∧ Below w.heap.size w w' := by
  go_enter Tryd.func57, Tryd.ntmps57
  go_wp2
  go_ret
  exact ⟨rfl, ⟨Nat.le_refl _, _, heap_alloc_new w _, (World.ownsRow_nil _ _ _ _ : World.ownsRow _ _ _ _ _ 0 [])⟩, (Below.refl _ _).alloc (Nat.le_refl _) _⟩

set_option maxHeartbeats 400000 in
theorem writer_byte (w : World) (B p x : Nat) (bs : List Nat) (hW : WriterIs w B p bs) (hlen : bs.length + 1 ≤ 140737488355328) :
    Calls Tryd.prog 58 #[.pointer (some ⟨p, 0, none⟩), .int .u8 x] w fun e w' => e = .returned (.tuple #[]) ∧ WriterIs w' B p (bs ++ [x]) ∧ Below B w w' := by
  obtain ⟨hB, v, hp, hv⟩ := hW
  obtain ⟨i0, hi, hz0, hz1, hz2⟩ := info_parts info5
  have hlt := heap_lt hp
  have hc := cell_of_one hp
  have hcA := fun o => cell_of_one (heap_old hp o)
  have HP := hide hp
  have HL := hide hlen
  clear hp
  go_enter Tryd.func58, Tryd.ntmps58
  go_wp2_with (at_builtin; refine wpList_append_own _ rfl (.tmp 8) (.tmp 10) 25 rfl B 5 i0 (.int .u8 0) 1 1 Tryd.underlying25 hi hz0 hz1 hz2 rfl (by decide) _ _ _ rfl (hv.alloc _) ⟨w.heap.size, 0, none⟩ 1 1 [.int .u8 x] rfl rfl ?c1 ?c2 ?c3 ?c4 ?c5 ?_)
  case c1 => exact one_new _ _ _
  case c2 => intro u hu; simp at hu; subst hu; rfl
  case c3 => unfold maxLen; omega
  case c4 => omega
  case c5 => simp; omega
  intro v' w1 hown hg _
  have hW2 := writer_grown (ys := bs ++ [x]) hB (heap_old HP.out _) (hv.alloc _) (by rw [u8s_app, List.length_append]; exact hown) hg (by simp; omega)
  have hp1 := (hg.block p (by simp; omega) (fun e => row_block (by decide) hv HP.out e.symm)).trans (heap_old HP.out _)
  have hc1 := cell_of_one hp1
  have hf1 := free_of_one hp1
  obtain ⟨g, cap, rfl⟩ := Joins.ownsRow_form hown (by omega)
  have HW := hide hW2
  clear hW2 hp1 hown hg
  go_wp2
  go_end0
  exact ⟨rfl, HW.out.1, ((Below.refl B w).alloc (by omega) _).trans HW.out.2⟩

/-- a slice value that reads as these bytes -/
def Src (w : World) (v : Value) (bs : List Nat) : Prop :=
  (∀ x ∈ bs, x < 256) ∧ ((v = .slice none 0 0 ∧ bs = []) ∨ ∃ ad cap, v = .slice (some ad) bs.length cap ∧ bs.length ≤ cap ∧ cap ≤ 9223372036854775807 ∧ ∀ k x : Nat, bs[k]? = some x → w.cell? (ad.add k) = some (.int .u8 x))

theorem src_news {w : World} {ad : Addr} {bs : List Nat} (h : ∀ k x : Nat, bs[k]? = some x → w.cell? (ad.add k) = some (.int .u8 x)) :
    ∀ (j : Nat) (u : Value), (u8s bs)[j]? = some u → w.cell? (ad.add j) = some u := by
  intro j u hu
  simp only [u8s, List.getElem?_map, Option.map_eq_some_iff] at hu
  obtain ⟨x, hx, rfl⟩ := hu
  exact h j x hx

theorem src_bytes {w : World} {v : Value} {bs : List Nat} (h : Src w v bs) : ∃ ao cap, v = .slice ao bs.length cap ∧ BytesAt w ao bs := by
  rcases h with ⟨h1, ⟨rfl, rfl⟩ | ⟨ad, cap, rfl, _, _, hc⟩⟩
  · exact ⟨none, 0, rfl, h1, .inl rfl⟩
  · refine ⟨some ad, cap, rfl, h1, ?_⟩
    cases bs with
    | nil => exact .inl rfl
    | cons x bs =>
      right
      have h0 := hc 0 x rfl
      obtain ⟨b, off, sp⟩ := ad
      have hs : sp = none := by
        simp only [Addr.add, if_pos, World.cell?] at h0
        split at h0
        · split at h0
          · cases h0
          · rename_i hh; simpa using hh
        · cases h0
      subst hs
      exact ⟨b, off, rfl, fun k x hk => by rw [← Addr.add_mid]; exact hc k x hk⟩

theorem src_below {B : Nat} {w w' : World} {v : Value} {bs : List Nat} (h : Src w v bs) (hb : Below B w w') (hB : bs = [] ∨ ∀ ad, v.ownBlock = some ad → ad < B) : Src w' v bs := by
  rcases h with ⟨h1, h2 | ⟨ad, cap, rfl, hl, hm, hc⟩⟩
  · exact ⟨h1, .inl h2⟩
  · refine ⟨h1, .inr ⟨ad, cap, rfl, hl, hm, fun k x hk => ?_⟩⟩
    rcases hB with rfl | hB
    · simp at hk
    · rw [hb.cell (p := ad.add k) (by have := hB ad.block rfl; unfold Addr.add; split <;> exact this)]
      exact hc k x hk

/-- what a row that is owned reads as -/
theorem src_own {w : World} {B : Nat} {v : Value} {bs : List Nat} (h : w.ownsRow B 5 1 v bs.length (u8s bs)) (hx : ∀ x ∈ bs, x < 256) : Src w v bs := by
  refine ⟨hx, ?_⟩
  rcases Joins.ownsRow_forms h with ⟨rfl, h0⟩ | ⟨g, cap, rfl⟩
  · exact .inl ⟨rfl, List.eq_nil_of_length_eq_zero h0⟩
  · refine .inr ⟨_, cap, rfl, ?_, ?_, fun k x hk => ?_⟩
    · rcases h.2 with ⟨h0, _⟩ | ⟨g', cap', cur, hv, _, _, hl, _⟩
      · cases h0
      · simp only [Value.slice.injEq] at hv; omega
    · rcases h.2 with ⟨h0, _⟩ | ⟨g', cap', cur, hv, _, _, _, hm, _⟩
      · cases h0
      · simp only [Value.slice.injEq] at hv; unfold maxLen at hm; omega
    · exact h.cells rfl k _ (by simp [u8s, hk])

set_option maxHeartbeats 400000 in
theorem writer_raw_some (w : World) (B p : Nat) (bs ys : List Nat) (ad : Addr) (cap : Nat) (hW : WriterIs w B p bs) (hs : B ≤ w.heap.size)
    (hn : ∀ (j : Nat) (u : Value), (u8s ys)[j]? = some u → w.cell? (ad.add j) = some u) (hlen : bs.length + ys.length ≤ 140737488355328) :
    Calls Tryd.prog 60 #[.pointer (some ⟨p, 0, none⟩), .slice (some ad) ys.length cap] w fun e w' => e = .returned (.tuple #[]) ∧ WriterIs w' B p (bs ++ ys) ∧ Below B w w' := by
  obtain ⟨hB, v, hp, hv⟩ := hW
  obtain ⟨i0, hi, hz0, hz1, hz2⟩ := info_parts info5
  have hlt := heap_lt hp
  have hc := cell_of_one hp
  have HP := hide hp
  have HL := hide hlen
  clear hp
  go_enter Tryd.func60, Tryd.ntmps60
  go_wp2_with (at_builtin; refine wpList_append_own _ rfl (.tmp 8) (.tmp 9) 25 rfl B 5 i0 (.int .u8 0) 1 1 Tryd.underlying25 hi hz0 hz1 hz2 rfl (by decide) _ _ _ rfl hv ad ys.length cap (u8s ys) rfl ?c0 ?c1 ?c2 ?c3 ?c4 ?c5 ?_)
  case c0 => simp [u8s_len]
  case c1 => exact hn
  case c2 => exact u8s_one _
  case c3 => unfold maxLen; omega
  case c4 => omega
  case c5 => omega
  intro v' w1 hown hg hnil
  have hW2 := writer_grown (ys := bs ++ ys) hB HP.out hv (by rw [u8s_app, List.length_append]; exact hown) hg hs
  have hp1 := (hg.block p (by omega) (fun e => row_block (by decide) hv HP.out e.symm)).trans HP.out
  have hc1 := cell_of_one hp1
  have hf1 := free_of_one hp1
  have hform := Joins.ownsRow_forms hown
  have HW := hide hW2
  clear hW2 hp1 hown hg hnil
  rcases hform with ⟨rfl, _⟩ | ⟨g, cap, rfl⟩
  all_goals
    go_wp2
    go_end0
    exact ⟨rfl, HW.out.1, HW.out.2⟩

set_option maxHeartbeats 400000 in
theorem writer_raw_none (w : World) (B p : Nat) (bs : List Nat) (hW : WriterIs w B p bs) :
    Calls Tryd.prog 60 #[.pointer (some ⟨p, 0, none⟩), .slice none 0 0] w fun e w' => e = .returned (.tuple #[]) ∧ WriterIs w' B p bs ∧ Below B w w' := by
  obtain ⟨hB, v, hp, hv⟩ := hW
  obtain ⟨i0, hi, hz0, hz1, hz2⟩ := info_parts info5
  have hc := cell_of_one hp
  have hf := free_of_one hp
  have hform := Joins.ownsRow_forms hv
  have HP := hide hp
  clear hp
  have hfin : WriterIs (w.setCell ⟨p, 0, none⟩ v) B p bs ∧ Below B w (w.setCell ⟨p, 0, none⟩ v) := ⟨⟨hB, v, one_setCell HP.out, ownsRow_setCell_other hv (row_block (by decide) hv HP.out) _⟩, below_set (Below.refl _ _) hB _⟩
  have HF := hide hfin
  clear hfin
  rcases hform with ⟨rfl, h0⟩ | ⟨g, cap, rfl⟩
  all_goals
    go_enter Tryd.func60, Tryd.ntmps60
    go_wp2_with (at_builtin; refine wpList_append_own_none rfl (.tmp 8) (.tmp 9) 25 rfl B 5 i0 1 Tryd.underlying25 hi _ _ _ rfl hv rfl ?_)
    go_end0
    exact ⟨rfl, HF.out⟩

theorem writer_raw (w : World) (B p : Nat) (bs ys : List Nat) (v : Value) (hW : WriterIs w B p bs) (hs : B ≤ w.heap.size) (hv : Src w v ys) (hlen : bs.length + ys.length ≤ 140737488355328) :
    Calls Tryd.prog 60 #[.pointer (some ⟨p, 0, none⟩), v] w fun e w' => e = .returned (.tuple #[]) ∧ WriterIs w' B p (bs ++ ys) ∧ Below B w w' := by
  rcases hv with ⟨_, ⟨rfl, rfl⟩ | ⟨ad, cap, rfl, _, _, hc⟩⟩
  · rw [List.append_nil]
    exact writer_raw_none w B p bs hW
  · exact writer_raw_some w B p bs ys ad cap hW hs (src_news hc) hlen

theorem byte_or (x : Nat) : bits .or .u8 ((x : Int) % 256) 128 = ((x % 128 + 128 : Nat) : Int) := by
  have h := u8_or_nat (x % 256) 128 (by omega) (by omega)
  rw [Uv.or128 _ (by omega)] at h
  have e : ((x : Int) % 256) = ((x % 256 : Nat) : Int) := by simp
  rw [e]
  refine h.trans ?_
  rw [Nat.mod_mod_of_dvd _ (by decide)]

set_option maxRecDepth 100000 in
set_option maxHeartbeats 1000000 in
theorem writer_uvarint (w : World) (B p x : Nat) (bs : List Nat) (hx : x < Uv.u64) (hW : WriterIs w B p bs) (hlen : bs.length + 10 ≤ 140737488355328) :
    Calls Tryd.prog 59 #[.pointer (some ⟨p, 0, none⟩), .int .u64 x] w fun e w' => e = .returned (.tuple #[]) ∧ WriterIs w' B p (bs ++ Uv.uv x) ∧ Below B w w' := by
  obtain ⟨i0, hi, hz0, hz1, hz2⟩ := info_parts info5
  have HW0 := hide hW
  have HL := hide hlen
  clear hW
  go_enter Tryd.func59, Tryd.ntmps59
  go_wp2
  go_loopw [1] (fun c wr => ∃ (f y : Nat) (pre : List Nat), y < 128 ^ (f + 1) ∧ y < Uv.u64 ∧ c = .int .u64 y ∧ Uv.uv x = pre ++ Uv.uvf f y ∧ WriterIs wr B p (bs ++ pre) ∧ Below B w wr) (fun c _ => (intOf c).toNat)
  case atStart => exact ⟨9, x, [], Uv.start_u64 hx, hx, rfl, rfl, by simpa using HW0.out, Below.refl _ _⟩
  case round =>
    obtain ⟨f, y, pre, hy, hy64, rfl, huv, ⟨hB, v, hp, hv⟩, hb⟩ := hrel
    have hpl : pre.length ≤ 9 := by have h1 := (Uv.uv_len x).1; rw [huv] at h1; have h2 := (Uv.uvf_len f y).2; simp at h1; omega
    have hlt := heap_lt hp
    have hc := cell_of_one hp
    have HP := hide hp
    have HU := hide huv
    clear hp huv
    by_cases hge : 128 ≤ y
    · cases f with
      | zero => simp at hy; omega
      | succ f =>
        have e1 := byte_or y
        have hz : y % 128 + 128 < 256 := by omega
        obtain ⟨z, hzz⟩ : ∃ z, z = y % 128 + 128 := ⟨_, rfl⟩
        rw [← hzz] at e1 hz
        have HZ := hide hzz
        have hyd : y / 128 < 128 ^ (f + 1) := by
          rw [Nat.div_lt_iff_lt_mul (by omega)]
          rw [Nat.pow_succ] at hy
          exact hy
        have HY := hide hyd
        have HG := hide (Uv.uvf_great f y hge)
        clear hzz hy hyd
        go_wp2_with (at_builtin; refine wpList_append_own _ rfl (.tmp 10) (.tmp 14) 25 rfl B 5 i0 (.int .u8 0) 1 1 Tryd.underlying25 hi hz0 hz1 hz2 rfl (by decide) _ _ _ rfl (hv.alloc _) ⟨wr.heap.size, 0, none⟩ 1 1 [.int .u8 z] rfl rfl ?c1z ?c2z ?c3z ?c4z ?c5z ?_)
        case c1z => exact one_new _ _ _
        case c2z => intro u hu; simp at hu; subst hu; rfl
        case c3z => have := HL.out; simp [maxLen]; omega
        case c4z => have := HL.out; simp; omega
        case c5z => simp; omega
        intro v' w1 hown hg _
        have hW2 := writer_grown (ys := bs ++ pre ++ [z]) hB (heap_old HP.out _) (hv.alloc _) (by rw [u8s_app, List.length_append, List.length_append]; exact hown) hg (by simp; omega)
        have hp1 := (hg.block p (by simp; omega) (fun e => row_block (by decide) hv HP.out e.symm)).trans (heap_old HP.out _)
        have hc1 := cell_of_one hp1
        have hf1 := free_of_one hp1
        obtain ⟨g, cap, rfl⟩ := Joins.ownsRow_form hown (by omega)
        have HW := hide hW2
        clear hW2 hp1 hown hg
        go_wp2
        go_roundw
        case rel =>
          refine ⟨f, y / 128, pre ++ [z], HY.out, Uv.half_u64 _ hy64, by simp, ?_, ?_, hb.trans (((Below.refl B wr).alloc (by omega) _).trans HW.out.2)⟩
          · rw [HU.out, HG.out, HZ.out, List.append_assoc]; rfl
          · rw [← List.append_assoc]; exact HW.out.1
        case measure => simp [intOf]; omega
    · have HS := hide (Uv.uvf_small f y (by omega))
      clear hy
      go_wp2_with (at_builtin; refine wpList_append_own _ rfl (.tmp 24) (.tmp 27) 25 rfl B 5 i0 (.int .u8 0) 1 1 Tryd.underlying25 hi hz0 hz1 hz2 rfl (by decide) _ _ _ rfl (hv.alloc _) ⟨wr.heap.size, 0, none⟩ 1 1 [.int .u8 y] rfl rfl ?c1y ?c2y ?c3y ?c4y ?c5y ?_)
      case c1y => exact one_new _ _ _
      case c2y => intro u hu; simp at hu; subst hu; rfl
      case c3y => have := HL.out; simp [maxLen]; omega
      case c4y => have := HL.out; simp; omega
      case c5y => simp; omega
      intro v' w1 hown hg _
      have hW2 := writer_grown (ys := bs ++ pre ++ [y]) hB (heap_old HP.out _) (hv.alloc _) (by rw [u8s_app, List.length_append, List.length_append]; exact hown) hg (by simp; omega)
      have hp1 := (hg.block p (by simp; omega) (fun e => row_block (by decide) hv HP.out e.symm)).trans (heap_old HP.out _)
      have hc1 := cell_of_one hp1
      have hf1 := free_of_one hp1
      obtain ⟨g, cap, rfl⟩ := Joins.ownsRow_form hown (by omega)
      have HW := hide hW2
      clear hW2 hp1 hown hg
      go_wp2
      go_end0
      refine ⟨rfl, ?_, hb.trans (((Below.refl B wr).alloc (by omega) _).trans HW.out.2)⟩
      rw [HU.out, HS.out, ← List.append_assoc]
      exact HW.out.1
end Go.Proofs.YtgebekklkodpaaaDoor

/-! Sum: the sums, program and reference -/
namespace Go.Proofs.YtgebekklkodpaaaDoor
open Go.RowKit

/-- all bits turned -/
def flip (r : Nat) : Nat := 4294967295 ^^^ r
theorem flip_lt {r : Nat} (h : r < 4294967296) : flip r < 4294967296 := Nat.xor_lt_two_pow (n := 32) (by omega) h
theorem flip_bits (s : Nat) (hs : s < 4294967296) : bits .xor .u32 IntKind.u32.max (s : Int) = ((flip s : Nat) : Int) := u32_xor_nat 4294967295 s (by omega) hs
/-- the sum of a list behind a sum -/
def ext (s : Nat) (bs : List Nat) : Nat := flip (Crc.run Crc.polyZip (flip s) bs)
def sum (bs : List Nat) : Nat := ext 0 bs
def seal_ (bs : List Nat) : Nat := flip (Crc.run Crc.polySeal 4294967295 bs)
theorem ext_lt {s : Nat} {bs : List Nat} (hs : s < 4294967296) (h : ∀ x ∈ bs, x < 256) : ext s bs < 4294967296 := flip_lt (Crc.run_lt (by decide) (flip_lt hs) h)
theorem sum_lt {bs : List Nat} (h : ∀ x ∈ bs, x < 256) : sum bs < 4294967296 := ext_lt (by omega) h
theorem seal_lt' {bs : List Nat} (h : ∀ x ∈ bs, x < 256) : seal_ bs < 4294967296 := flip_lt (Crc.run_lt (by decide) (by omega) h)

theorem extend_any (w : World) (Z : Zip w) (s : Nat) (hs : s < 4294967296) (v : Value) (bs : List Nat) (hv : Src w v bs) (hl : bs.length ≤ 9223372036854775807) :
    Calls Tryd.prog 31 #[.int .u32 s, v] w fun e w' => e = .returned (.int .u32 (ext s bs : Nat)) ∧ w = w' := by
  have hr : Crc.run Crc.polyZip (flip s) bs < 4294967296 := Crc.run_lt (by decide) (flip_lt hs) hv.1
  obtain ⟨ao, cap, rfl, hb⟩ := src_bytes hv
  clear hv
  have e1 := flip_bits s hs
  have l1 := flip_lt hs
  have HE := hide (show ext s bs = flip (Crc.run Crc.polyZip (flip s) bs) from rfl)
  generalize flip s = s1 at e1 l1 hr HE
  have HR := roll_any w Z s1 l1 ao cap bs hb hl
  have HR' := hide HR
  clear HR
  have e2 := flip_bits _ hr
  generalize Crc.run Crc.polyZip s1 bs = s2 at e2 hr HE HR'
  generalize flip s2 = s3 at e2 HE
  have hsg : IntKind.u32.signed = false := rfl
  go_enter Tryd.func31, Tryd.ntmps31
  go_wp2_with (go_at_call 51; refine HR'.out.mono ?_; rintro e w' ⟨rfl, rfl⟩)
  go_ret
  exact ⟨ret_int (by rw [HE.out]), rfl⟩

theorem sum_any (w : World) (Z : Zip w) (v : Value) (bs : List Nat) (hv : Src w v bs) (hl : bs.length ≤ 9223372036854775807) :
    Calls Tryd.prog 28 #[v] w fun e w' => e = .returned (.int .u32 (sum bs : Nat)) ∧ w = w' := by
  have HR : Calls Tryd.prog 31 #[.int .u32 0, v] w fun e w' => e = .returned (.int .u32 (sum bs : Nat)) ∧ w = w' := extend_any w Z 0 (by omega) v bs hv hl
  have HR' := hide HR
  clear HR hv
  generalize sum bs = s at HR'
  go_enter Tryd.func28, Tryd.ntmps28
  go_wp2_with (go_at_call 31; refine HR'.out.mono ?_; rintro e w' ⟨rfl, rfl⟩)
  go_ret
  exact ⟨rfl, rfl⟩

/-- the table of the seal -/
def SealT (w : World) : Prop := ∀ k : Nat, k < 16 → w.cell? ⟨15, k, none⟩ = some (.int .u32 (Crc.sealTable.getD k 0 : Nat))

theorem seal_lt (k : Nat) (h : k < 16) : Crc.sealTable.getD k 0 < 4294967296 := by
  rw [Crc.seal_tab k h]
  exact Crc.step4_lt (by decide) (by omega)

/-- what one nibble's step computes -/
theorem seal_step (w : World) (Z : SealT w) (s : Nat) (hs : s < 4294967296) :
    ∃ t : Nat, t < 4294967296 ∧ w.cell? ⟨15, s % 16, none⟩ = some (.int .u32 t) ∧ bits .and .u32 (s : Int) 15 = ((s % 16 : Nat) : Int) ∧
      bits .xor .u32 ((s : Int) / 16) (t : Int) = (Crc.step4 Crc.polySeal s : Nat) ∧ Crc.step4 Crc.polySeal s < 4294967296 := by
  refine ⟨Crc.sealTable.getD (s % 16) 0, seal_lt _ (by omega), Z _ (by omega), ?_, ?_, Crc.step4_lt (by decide) hs⟩
  · have := u32_and_nat s 15 hs (by omega)
    rw [nat_mask4] at this
    exact this
  · have h := u32_xor_nat (s / 16) (Crc.sealTable.getD (s % 16) 0) (by omega) (seal_lt _ (by omega))
    rw [Crc.seal_step4] at h
    rw [← h]
    simp

set_option maxHeartbeats 400000 in
theorem seal_some (w : World) (Z : SealT w) (b off cap : Nat) (bs : List Nat) (hb : ∀ x ∈ bs, x < 256) (hl : bs.length ≤ 9223372036854775807)
    (hc : ∀ k x : Nat, bs[k]? = some x → w.cell? ⟨b, off + k, none⟩ = some (.int .u8 x)) :
    Calls Tryd.prog 27 #[.slice (some ⟨b, off, none⟩) bs.length cap] w fun e w' => e = .returned (.int .u32 (seal_ bs : Nat)) ∧ w = w' := by
  have HC := hide hc
  clear hc
  go_enter Tryd.func27, Tryd.ntmps27
  go_wp2
  go_loop [3, 8] (fun v i => ∃ k s : Nat, k ≤ bs.length ∧ s < 4294967296 ∧ i = .int .i64 k ∧ v = .int .u32 s ∧ s = Crc.run Crc.polySeal 4294967295 (bs.take k)) (fun _ i => bs.length - (intOf i).toNat)
  case atStart => exact ⟨0, 4294967295, Nat.zero_le _, by omega, rfl, rfl, rfl⟩
  case round =>
    obtain ⟨k, s, hk, hs, rfl, rfl, hS⟩ := hrel
    have HS := hide hS
    clear hS
    by_cases hlt : k < bs.length
    · obtain ⟨x, hx⟩ : ∃ x, bs[k]? = some x := ⟨_, List.getElem?_eq_getElem hlt⟩
      have hx256 : x < 256 := hb x (List.mem_of_getElem? hx)
      have hcell := HC.out k x hx
      have HX := hide hx
      clear hx
      have e1 := u32_xor_nat s x hs (by omega)
      have l1 : s ^^^ x < 4294967296 := Nat.xor_lt_two_pow (n := 32) hs (by omega)
      obtain ⟨s1, hs1⟩ : ∃ s1, s1 = s ^^^ x := ⟨_, rfl⟩
      rw [← hs1] at e1 l1
      have HS1 := hide hs1
      clear hs1
      obtain ⟨t1, ht1, hct1, ea1, ex1, l2⟩ := seal_step w Z s1 l1
      generalize hs2 : Crc.step4 Crc.polySeal s1 = s2 at ex1 l2
      have HS2 := hide hs2
      clear hs2
      obtain ⟨t2, ht2, hct2, ea2, ex2, l3⟩ := seal_step w Z s2 l2
      generalize hs3 : Crc.step4 Crc.polySeal s2 = s3 at ex2 l3
      have HS3 := hide hs3
      clear hs3
      go_wp2
      go_round
      case rel => exact ⟨k + 1, s3, hlt, l3, by go_num, rfl, by rw [run_take _ _ _ _ _ HX.out, ← HS.out, Crc.byte, ← HS1.out, Crc.step8, HS2.out, HS3.out]⟩
      case measure => simp [intOf]; omega
    · go_wp2
      go_ret
      exact ⟨ret_int (by rw [flip_bits s hs, HS.out, List.take_of_length_le (by omega)]; rfl), rfl⟩

theorem seal_none (w : World) (ao : Option Addr) (cap : Nat) :
    Calls Tryd.prog 27 #[.slice ao 0 cap] w fun e w' => e = .returned (.int .u32 0) ∧ w = w' := by
  go_enter Tryd.func27, Tryd.ntmps27
  go_wp2
  refine wp_loop_rounds 1 ?_
  rw [rounds_succ]
  go_wp2
  go_ret
  exact ⟨rfl, rfl⟩

theorem seal_any (w : World) (Z : SealT w) (v : Value) (bs : List Nat) (hv : Src w v bs) (hl : bs.length ≤ 9223372036854775807) :
    Calls Tryd.prog 27 #[v] w fun e w' => e = .returned (.int .u32 (seal_ bs : Nat)) ∧ w = w' := by
  obtain ⟨ao, cap, rfl, h1, rfl | ⟨b, off, rfl, h2⟩⟩ := src_bytes hv
  · exact seal_none w ao cap
  · exact seal_some w Z b off cap bs h1 hl h2

/-! the reference's -/
set_option maxHeartbeats 400000 in
theorem ref_run_some (w : World) (p r : Nat) (hp : p < 4294967296) (hr : r < 4294967296) (b off cap : Nat) (bs : List Nat) (hb : ∀ x ∈ bs, x < 256) (hl : bs.length ≤ 9223372036854775807)
    (hc : ∀ k x : Nat, bs[k]? = some x → w.cell? ⟨b, off + k, none⟩ = some (.int .u8 x)) :
    Calls Tryd.prog 66 #[.int .u32 r, .slice (some ⟨b, off, none⟩) bs.length cap, .int .u32 p] w fun e w' => e = .returned (.int .u32 (Crc.run p r bs : Nat)) ∧ w = w' := by
  have HC := hide hc
  clear hc
  go_enter Tryd.func66, Tryd.ntmps66
  go_wp2
  go_loop [0, 11] (fun v i => ∃ k s : Nat, k ≤ bs.length ∧ s < 4294967296 ∧ i = .int .i64 k ∧ v = .int .u32 s ∧ s = Crc.run p r (bs.take k)) (fun _ i => bs.length - (intOf i).toNat)
  case atStart => exact ⟨0, r, Nat.zero_le _, hr, rfl, rfl, rfl⟩
  case round =>
    obtain ⟨k, s, hk, hs, rfl, rfl, hS⟩ := hrel
    have HS := hide hS
    clear hS
    by_cases hlt : k < bs.length
    · obtain ⟨x, hx⟩ : ∃ x, bs[k]? = some x := ⟨_, List.getElem?_eq_getElem hlt⟩
      have hx256 : x < 256 := hb x (List.mem_of_getElem? hx)
      have hcell := HC.out k x hx
      have HX := hide hx
      clear hx
      have l2 : Crc.byte p s x < 4294967296 := Crc.byte_lt hp hs hx256
      go_wp2_with (go_at_call 54; refine (ref_step w p s x hp hs hx256).mono ?_; rintro e w' ⟨rfl, rfl⟩)
      go_round
      case rel => exact ⟨k + 1, _, hlt, l2, by go_num, rfl, by rw [run_take _ _ _ _ _ HX.out, ← HS.out]⟩
      case measure => simp [intOf]; omega
    · go_wp2
      go_ret
      exact ⟨ret_int (by rw [HS.out, List.take_of_length_le (by omega)]), rfl⟩
theorem ref_run_none (w : World) (p r : Nat) (ao : Option Addr) (cap : Nat) :
    Calls Tryd.prog 66 #[.int .u32 r, .slice ao 0 cap, .int .u32 p] w fun e w' => e = .returned (.int .u32 r) ∧ w = w' := by
  go_enter Tryd.func66, Tryd.ntmps66
  go_wp2
  refine wp_loop_rounds 1 ?_
  rw [rounds_succ]
  go_wp2
  go_ret
  exact ⟨rfl, rfl⟩
theorem ref_run (w : World) (p r : Nat) (hp : p < 4294967296) (hr : r < 4294967296) (v : Value) (bs : List Nat) (hv : Src w v bs) (hl : bs.length ≤ 9223372036854775807) :
    Calls Tryd.prog 66 #[.int .u32 r, v, .int .u32 p] w fun e w' => e = .returned (.int .u32 (Crc.run p r bs : Nat)) ∧ w = w' := by
  obtain ⟨ao, cap, rfl, h1, rfl | ⟨b, off, rfl, h2⟩⟩ := src_bytes hv
  · exact ref_run_none w p r ao cap
  · exact ref_run_some w p r hp hr b off cap bs h1 hl h2

theorem ref_extend (w : World) (s : Nat) (hs : s < 4294967296) (v : Value) (bs : List Nat) (hv : Src w v bs) (hl : bs.length ≤ 9223372036854775807) :
    Calls Tryd.prog 32 #[.int .u32 s, v] w fun e w' => e = .returned (.int .u32 (ext s bs : Nat)) ∧ w = w' := by
  have hr : Crc.run Crc.polyZip (flip s) bs < 4294967296 := Crc.run_lt (by decide) (flip_lt hs) hv.1
  have e1 := flip_bits s hs
  have l1 := flip_lt hs
  have HE := hide (show ext s bs = flip (Crc.run Crc.polyZip (flip s) bs) from rfl)
  generalize flip s = s1 at e1 l1 hr HE
  have HR : Calls Tryd.prog 66 #[.int .u32 s1, v, .int .u32 3988292384] w fun e w' => e = .returned (.int .u32 (Crc.run Crc.polyZip s1 bs : Nat)) ∧ w = w' := ref_run w Crc.polyZip s1 (by decide) l1 v bs hv hl
  have HR' := hide HR
  clear HR hv
  have e2 := flip_bits _ hr
  generalize Crc.run Crc.polyZip s1 bs = s2 at e2 hr HE HR'
  generalize flip s2 = s3 at e2 HE
  have hsg : IntKind.u32.signed = false := rfl
  go_enter Tryd.func32, Tryd.ntmps32
  go_wp2_with (go_at_call 66; refine HR'.out.mono ?_; rintro e w' ⟨rfl, rfl⟩)
  go_ret
  exact ⟨ret_int (by rw [HE.out]), rfl⟩
theorem ref_sum (w : World) (v : Value) (bs : List Nat) (hv : Src w v bs) (hl : bs.length ≤ 9223372036854775807) :
    Calls Tryd.prog 29 #[v] w fun e w' => e = .returned (.int .u32 (sum bs : Nat)) ∧ w = w' := by
  have HR : Calls Tryd.prog 32 #[.int .u32 0, v] w fun e w' => e = .returned (.int .u32 (sum bs : Nat)) ∧ w = w' := ref_extend w 0 (by omega) v bs hv hl
  have HR' := hide HR
  clear HR hv
  generalize sum bs = s at HR'
  go_enter Tryd.func29, Tryd.ntmps29
  go_wp2_with (go_at_call 32; refine HR'.out.mono ?_; rintro e w' ⟨rfl, rfl⟩)
  go_ret
  exact ⟨rfl, rfl⟩
theorem ref_seal (w : World) (v : Value) (bs : List Nat) (hv : Src w v bs) (hl : bs.length ≤ 9223372036854775807) :
    Calls Tryd.prog 30 #[v] w fun e w' => e = .returned (.int .u32 (seal_ bs : Nat)) ∧ w = w' := by
  have hr : Crc.run Crc.polySeal 4294967295 bs < 4294967296 := Crc.run_lt (by decide) (by omega) hv.1
  have HE := hide (show seal_ bs = flip (Crc.run Crc.polySeal 4294967295 bs) from rfl)
  have HR : Calls Tryd.prog 66 #[.int .u32 4294967295, v, .int .u32 2197175160] w fun e w' => e = .returned (.int .u32 (Crc.run Crc.polySeal 4294967295 bs : Nat)) ∧ w = w' := ref_run w Crc.polySeal 4294967295 (by decide) (by omega) v bs hv hl
  have HR' := hide HR
  clear HR hv
  have e2 := flip_bits _ hr
  generalize Crc.run Crc.polySeal 4294967295 bs = s2 at e2 hr HE HR'
  generalize flip s2 = s3 at e2 HE
  go_enter Tryd.func30, Tryd.ntmps30
  go_wp2_with (go_at_call 66; refine HR'.out.mono ?_; rintro e w' ⟨rfl, rfl⟩)
  go_ret
  exact ⟨ret_int (by rw [HE.out]), rfl⟩
end Go.Proofs.YtgebekklkodpaaaDoor

/-! Wd: codec.Writer: Word32 -/
namespace Go.Proofs.YtgebekklkodpaaaDoor
open Go.RowKit

theorem grown_undrew {w w1 : World} {r : Option Nat} (h : w.drew.grownBy w1 r) : w.grownBy w1 r := ⟨h.os, h.tape, h.output, h.size, h.block⟩
theorem one_one (z : Nat) : ∀ u ∈ [Value.int .u8 (z : Int)], u.oneCell' = true := by
  intro u hu
  simp at hu
  subst hu
  rfl

set_option maxRecDepth 100000 in
set_option maxHeartbeats 2000000 in
theorem writer_word (w : World) (B p x : Nat) (bs : List Nat) (hW : WriterIs w B p bs) (hlen : bs.length + 4 ≤ 140737488355328) :
    Calls Tryd.prog 61 #[.pointer (some ⟨p, 0, none⟩), .int .u32 x] w fun e w' => e = .returned (.tuple #[]) ∧ WriterIs w' B p (bs ++ Uv.word x) ∧ Below B w w' := by
  obtain ⟨i0, hi, hz0, hz1, hz2⟩ := info_parts info5
  have HW0 := hide hW
  have HL := hide hlen
  clear hW
  go_enter Tryd.func61, Tryd.ntmps61
  go_wp2
  go_loopw [5] (fun c wr => ∃ i : Nat, i ≤ 4 ∧ c = .int .i64 i ∧ WriterIs wr B p (bs ++ (Uv.word x).take i) ∧ Below B w wr) (fun c _ => 4 - (intOf c).toNat)
  case atStart => exact ⟨0, by omega, rfl, by simpa using HW0.out, Below.refl _ _⟩
  case round =>
    obtain ⟨i, hi4, rfl, ⟨hB, v, hp, hv⟩, hb⟩ := hrel
    have hcl : (bs ++ (Uv.word x).take i).length ≤ bs.length + i := by simp; omega
    obtain ⟨cur, hcur⟩ : ∃ cur, cur = bs ++ (Uv.word x).take i := ⟨_, rfl⟩
    rw [← hcur] at hv hcl
    have HCU := hide hcur
    clear hcur
    have hlt := heap_lt hp
    have hc := cell_of_one hp
    have hcA := fun o => cell_of_one (heap_old hp o)
    have HP := hide hp
    clear hp
    have q0 : IntKind.i64.wrap 0 = 0 := by decide
    have q1 : IntKind.i64.wrap 8 = 8 := by decide
    have q2 : IntKind.i64.wrap 16 = 16 := by decide
    have q3 : IntKind.i64.wrap 24 = 24 := by decide
    by_cases h4 : i < 4
    · have HL1 := hide (show cur.length + 1 ≤ maxLen by have := HL.out; simp [maxLen]; omega)
      have HL2 := hide (show (cur.length + 1) * 1 ≤ 140737488355328 by have := HL.out; omega)
      have hcase : i = 0 ∨ i = 1 ∨ i = 2 ∨ i = 3 := by omega
      rcases hcase with rfl | rfl | rfl | rfl
      · have hz : IntKind.u8.wrap (x : Int) = ((x % 256 : Nat) : Int) := by rw [IntKind.wrap_u8']; simp
        obtain ⟨z, hzz⟩ : ∃ z, z = x % 256 := ⟨_, rfl⟩
        rw [← hzz] at hz
        have HZ := hide hzz
        clear hzz
        go_wp2
        go_region_law (first
          | (refine step_append_lies _ rfl (.tmp 12) (.tmp 18) 25 rfl B 5 i0 (.int .u8 0) 1 1 Tryd.underlying25 hi hz0 hz1 hz2 rfl (by decide) v _ _ rfl (hv.alloc _) ⟨wr.heap.size, 0, none⟩ 1 1 [.int .u8 (z : Int)] rfl rfl (one_new _ _ _) (one_one _) (by decide) HL1.out HL2.out (by simp; omega) _ rfl ?_; intro g cap w1 hown hg hat hltg; have hp1 := (hg.block p (by simp; omega) (fun e => row_block (by decide) hv HP.out e.symm)).trans (heap_old HP.out _); have hc1 := cell_of_one hp1; have hf1 := free_of_one hp1))
        all_goals
          have hW2 := writer_grown (ys := cur ++ [z]) hB (heap_old HP.out _) (hv.alloc _) (by rw [u8s_app, List.length_append]; exact hown) (grown_undrew hg) (by simp; omega)
          have HW := hide hW2
          clear hW2
          go_wp2
          go_roundw
          case rel =>
            refine ⟨1, by omega, by go_num, ?_, hb.trans (((Below.refl B wr).alloc (by omega) _).trans HW.out.2)⟩
            rw [show bs ++ (Uv.word x).take 1 = cur ++ [z] by rw [HZ.out, HCU.out]; simp [Uv.word]]
            exact HW.out.1
          case measure => simp [intOf]
      · have hz : IntKind.u8.wrap ((x : Int) / 256) = ((x / 256 % 256 : Nat) : Int) := by rw [IntKind.wrap_u8']; simp
        obtain ⟨z, hzz⟩ : ∃ z, z = x / 256 % 256 := ⟨_, rfl⟩
        rw [← hzz] at hz
        have HZ := hide hzz
        clear hzz
        go_wp2
        go_region_law (first
          | (refine step_append_lies _ rfl (.tmp 12) (.tmp 18) 25 rfl B 5 i0 (.int .u8 0) 1 1 Tryd.underlying25 hi hz0 hz1 hz2 rfl (by decide) v _ _ rfl (hv.alloc _) ⟨wr.heap.size, 0, none⟩ 1 1 [.int .u8 (z : Int)] rfl rfl (one_new _ _ _) (one_one _) (by decide) HL1.out HL2.out (by simp; omega) _ rfl ?_; intro g cap w1 hown hg hat hltg; have hp1 := (hg.block p (by simp; omega) (fun e => row_block (by decide) hv HP.out e.symm)).trans (heap_old HP.out _); have hc1 := cell_of_one hp1; have hf1 := free_of_one hp1))
        all_goals
          have hW2 := writer_grown (ys := cur ++ [z]) hB (heap_old HP.out _) (hv.alloc _) (by rw [u8s_app, List.length_append]; exact hown) (grown_undrew hg) (by simp; omega)
          have HW := hide hW2
          clear hW2
          go_wp2
          go_roundw
          case rel =>
            refine ⟨2, by omega, by go_num, ?_, hb.trans (((Below.refl B wr).alloc (by omega) _).trans HW.out.2)⟩
            rw [show bs ++ (Uv.word x).take 2 = cur ++ [z] by rw [HZ.out, HCU.out]; simp [Uv.word]]
            exact HW.out.1
          case measure => simp [intOf]
      · have hz : IntKind.u8.wrap ((x : Int) / 65536) = ((x / 65536 % 256 : Nat) : Int) := by rw [IntKind.wrap_u8']; simp
        obtain ⟨z, hzz⟩ : ∃ z, z = x / 65536 % 256 := ⟨_, rfl⟩
        rw [← hzz] at hz
        have HZ := hide hzz
        clear hzz
        go_wp2
        go_region_law (first
          | (refine step_append_lies _ rfl (.tmp 12) (.tmp 18) 25 rfl B 5 i0 (.int .u8 0) 1 1 Tryd.underlying25 hi hz0 hz1 hz2 rfl (by decide) v _ _ rfl (hv.alloc _) ⟨wr.heap.size, 0, none⟩ 1 1 [.int .u8 (z : Int)] rfl rfl (one_new _ _ _) (one_one _) (by decide) HL1.out HL2.out (by simp; omega) _ rfl ?_; intro g cap w1 hown hg hat hltg; have hp1 := (hg.block p (by simp; omega) (fun e => row_block (by decide) hv HP.out e.symm)).trans (heap_old HP.out _); have hc1 := cell_of_one hp1; have hf1 := free_of_one hp1))
        all_goals
          have hW2 := writer_grown (ys := cur ++ [z]) hB (heap_old HP.out _) (hv.alloc _) (by rw [u8s_app, List.length_append]; exact hown) (grown_undrew hg) (by simp; omega)
          have HW := hide hW2
          clear hW2
          go_wp2
          go_roundw
          case rel =>
            refine ⟨3, by omega, by go_num, ?_, hb.trans (((Below.refl B wr).alloc (by omega) _).trans HW.out.2)⟩
            rw [show bs ++ (Uv.word x).take 3 = cur ++ [z] by rw [HZ.out, HCU.out]; simp [Uv.word]]
            exact HW.out.1
          case measure => simp [intOf]
      · have hz : IntKind.u8.wrap ((x : Int) / 16777216) = ((x / 16777216 % 256 : Nat) : Int) := by rw [IntKind.wrap_u8']; simp
        obtain ⟨z, hzz⟩ : ∃ z, z = x / 16777216 % 256 := ⟨_, rfl⟩
        rw [← hzz] at hz
        have HZ := hide hzz
        clear hzz
        go_wp2
        go_region_law (first
          | (refine step_append_lies _ rfl (.tmp 12) (.tmp 18) 25 rfl B 5 i0 (.int .u8 0) 1 1 Tryd.underlying25 hi hz0 hz1 hz2 rfl (by decide) v _ _ rfl (hv.alloc _) ⟨wr.heap.size, 0, none⟩ 1 1 [.int .u8 (z : Int)] rfl rfl (one_new _ _ _) (one_one _) (by decide) HL1.out HL2.out (by simp; omega) _ rfl ?_; intro g cap w1 hown hg hat hltg; have hp1 := (hg.block p (by simp; omega) (fun e => row_block (by decide) hv HP.out e.symm)).trans (heap_old HP.out _); have hc1 := cell_of_one hp1; have hf1 := free_of_one hp1))
        all_goals
          have hW2 := writer_grown (ys := cur ++ [z]) hB (heap_old HP.out _) (hv.alloc _) (by rw [u8s_app, List.length_append]; exact hown) (grown_undrew hg) (by simp; omega)
          have HW := hide hW2
          clear hW2
          go_wp2
          go_roundw
          case rel =>
            refine ⟨4, by omega, by go_num, ?_, hb.trans (((Below.refl B wr).alloc (by omega) _).trans HW.out.2)⟩
            rw [show bs ++ (Uv.word x).take 4 = cur ++ [z] by rw [HZ.out, HCU.out]; simp [Uv.word]]
            exact HW.out.1
          case measure => simp [intOf]
    · obtain rfl : i = 4 := by omega
      go_wp2
      go_end0
      refine ⟨rfl, ⟨hB, v, HP.out, ?_⟩, hb⟩
      have := HCU.out
      rw [show (Uv.word x).take 4 = Uv.word x from rfl] at this
      rw [← this]
      exact hv
end Go.Proofs.YtgebekklkodpaaaDoor

/-! Cat: codec.Concat of one list; Writer.Bytes -/
namespace Go.Proofs.YtgebekklkodpaaaDoor
open Go.RowKit

theorem size5 : (Tryd.prog.info? 5).map (·.size) = some 1 := by kernel_rfl

/-- the cells of a full row -/
theorem row_full {w : World} {B g n : Nat} {xs : List Value} (h : w.ownsRow B 5 1 (.slice (some ⟨g, 0, none⟩) n n) n xs) : w.heap[g]? = some (.cells xs.toArray 5 (0, 0)) := by
  rcases h.2 with ⟨h0, _⟩ | ⟨g', cap, cur, hv, _, hg, _, _, hs, ht⟩
  · cases h0
  · simp only [Value.slice.injEq, Option.some.injEq, Addr.mk.injEq] at hv
    obtain ⟨⟨rfl, _⟩, _, rfl⟩ := hv
    rw [hg]
    have : cur.toList = xs := by rw [← ht, List.take_of_length_le (by simp; omega)]
    rw [← this]
theorem row_of_heap {w : World} {B g : Nat} {xs : List Value} (hg : w.heap[g]? = some (.cells xs.toArray 5 (0, 0))) (hB : B ≤ g) (hl : xs.length ≤ 9223372036854775807) : w.ownsRow B 5 1 (.slice (some ⟨g, 0, none⟩) xs.length xs.length) xs.length xs :=
  ⟨by simp, .inr ⟨g, xs.length, xs.toArray, rfl, hB, hg, Nat.le_refl _, by unfold maxLen; omega, by simp, by simp⟩⟩

set_option maxRecDepth 100000 in
set_option maxHeartbeats 1000000 in
theorem concat_some (w : World) (g cap : Nat) (ao : Option Addr) (bs : List Nat) (hc : w.cell? ⟨g, 0, none⟩ = some (.slice ao bs.length cap)) (hn : bs.length ≤ 140737488355328)
    (hs : 0 < bs.length → ∃ ad, ao = some ad ∧ ∀ (j : Nat) (u : Value), (u8s bs)[j]? = some u → w.cell? (ad.add j) = some u) :
    Calls Tryd.prog 68 #[.slice (some ⟨g, 0, none⟩) 1 1] w fun e w' => e = .returned (.slice (some ⟨w.heap.size, 0, none⟩) bs.length bs.length) ∧ w'.heap[w.heap.size]? = some (.cells (u8s bs).toArray 5 (0, 0)) ∧ Below w.heap.size w w' := by
  obtain ⟨i0, hi, hz0, hz1, hz2⟩ := info_parts info5
  go_enter Tryd.func68, Tryd.ntmps68
  go_wp2
  refine wp_loop_rounds 2 ?_
  rw [rounds_succ]
  go_wp2
  rw [rounds_succ]
  go_wp2_with (at_make; refine wpList_make_full _ rfl (.tmp 21) (.tmp 21) 25 rfl w.heap.size 5 i0 (.int .u8 0) 1 Tryd.underlying25 hi hz0 hz1 _ _ _ _ bs.length rfl rfl rfl rfl ?_ ?_ (Nat.le_refl _) ?_)
  case refine_1 => rw [hz2]; omega
  case refine_2 => unfold maxLen; omega
  intro w1 hown hg
  have hcell1 := (hg.cell hc (by simp))
  have hB := (Below.refl w.heap.size w).grown hg (Nat.le_refl _) (fun k hk => by cases hk)
  have hrow := row_full hown
  have hml : (madeCells #[Value.int IntKind.u8 0] bs.length).toList.length = bs.length := by simp [madeCells]
  have hsrc : 0 < bs.length → ∃ ad, ao = some ad ∧ ∀ (j : Nat) (u : Value), (u8s bs)[j]? = some u → w1.cell? (ad.add j) = some u := fun h0 => by
    obtain ⟨ad, h1, h2⟩ := hs h0
    exact ⟨ad, h1, fun j u hu => hg.cell (h2 j u hu) (by simp)⟩
  generalize (madeCells #[Value.int IntKind.u8 0] bs.length).toList = Z at hrow hml
  have HR := hide hrow
  have HS := hide hsrc
  have HB := hide hB
  clear hown hg hrow hs hsrc hc hB
  have hsp : splice Z 0 (u8s bs) = u8s bs := by
    unfold splice
    rw [List.take_zero, List.nil_append, List.drop_eq_nil_of_le (by rw [u8s_len]; omega), List.append_nil]
  have HSP := hide hsp
  have HML := hide hml
  have hul := u8s_len bs
  have HUL := hide hul
  clear hsp hml hul
  by_cases h0 : bs.length = 0
  · have hn0 : bs = [] := List.eq_nil_of_length_eq_zero h0
    clear h0
    subst hn0
    go_wp2
    refine wp_loop_rounds 2 ?_
    rw [rounds_succ]
    go_wp2_with (refine wpList_copy_splice rfl (.tmp 32) (.tmp 33) 25 25 rfl 5 Tryd.underlying25 size5 (some ⟨w.heap.size, 0, none⟩) ao 0 0 0 cap rfl rfl w.heap.size 0 Z 5 HR.out (u8s []) ?_ ?_ ?_ ?_ w.heap.size w HB.out (Nat.le_refl _) ?_)
    case refine_1 => rfl
    case refine_2 => exact fun h => absurd h (by decide)
    case refine_3 => simp [u8s]
    case refine_4 => exact u8s_one _
    intro w2 hR2 hB2
    have HB2 := hide hB2
    clear hB2
    go_wp2
    rw [rounds_succ]
    go_wp2
    go_ret
    refine ⟨rfl, ?_, HB2.out⟩
    have := hR2.out
    rw [HSP.out] at this
    exact this
  · have hpos : 0 < bs.length := by omega
    go_wp2
    refine wp_loop_rounds 2 ?_
    rw [rounds_succ]
    go_wp2_with (refine wpList_copy_splice rfl (.tmp 32) (.tmp 33) 25 25 rfl 5 Tryd.underlying25 size5 (some ⟨w.heap.size, 0, none⟩) ao bs.length bs.length bs.length cap rfl rfl w.heap.size 0 Z 5 HR.out (u8s bs) ?_ ?_ ?_ ?_ w.heap.size w HB.out (Nat.le_refl _) ?_)
    case refine_1 => rw [HUL.out]; simp
    case refine_2 =>
      intro _
      obtain ⟨ad, h1, h2⟩ := HS.out hpos
      exact ⟨ad, h1, h2⟩
    case refine_3 => have h1 := HML.out; have h2 := HUL.out; omega
    case refine_4 => exact u8s_one _
    intro w2 hR2 hB2
    have HB2 := hide hB2
    have hul := HUL.out
    clear hB2
    go_wp2
    rw [rounds_succ]
    go_wp2
    go_ret
    refine ⟨rfl, ?_, HB2.out⟩
    have := hR2.out
    rw [HSP.out] at this
    exact this

theorem concat_any (w : World) (g : Nat) (v : Value) (bs : List Nat) (hc : w.cell? ⟨g, 0, none⟩ = some v) (hs : Src w v bs) (hn : bs.length ≤ 140737488355328) :
    Calls Tryd.prog 68 #[.slice (some ⟨g, 0, none⟩) 1 1] w fun e w' => e = .returned (.slice (some ⟨w.heap.size, 0, none⟩) bs.length bs.length) ∧ w'.heap[w.heap.size]? = some (.cells (u8s bs).toArray 5 (0, 0)) ∧ Below w.heap.size w w' := by
  rcases hs with ⟨_, ⟨rfl, rfl⟩ | ⟨ad, cap, rfl, _, _, hs⟩⟩
  · exact concat_some w g 0 none [] hc hn (fun h => absurd h (by decide))
  · exact concat_some w g cap (some ad) bs hc hn (fun _ => ⟨ad, rfl, src_news hs⟩)

set_option maxHeartbeats 400000 in
theorem writer_bytes (w : World) (B p : Nat) (bs : List Nat) (hW : WriterIs w B p bs) (hx : ∀ x ∈ bs, x < 256) (hn : bs.length ≤ 140737488355328) :
    Calls Tryd.prog 62 #[.pointer (some ⟨p, 0, none⟩)] w fun e w' => e = .returned (.slice (some ⟨w.heap.size + 1, 0, none⟩) bs.length bs.length) ∧ w'.heap[w.heap.size + 1]? = some (.cells (u8s bs).toArray 5 (0, 0)) ∧ Below w.heap.size w w' := by
  obtain ⟨hB, v, hp, hv⟩ := hW
  have hc := cell_of_one hp
  have HS := hide (src_own (hv.alloc (.cells #[v] 25)) hx)
  have hz : (w.alloc (.cells #[v] 25)).cell? ⟨w.heap.size, 0, none⟩ = some v := by rw [World.cell?_alloc_new]; rfl
  have HZ := hide hz
  have hform := Joins.ownsRow_forms hv
  clear hp hz hB hv
  rcases hform with ⟨rfl, h0⟩ | ⟨g, cap, rfl⟩
  · have h1 := List.eq_nil_of_length_eq_zero h0
    clear h0
    subst h1
    go_enter Tryd.func62, Tryd.ntmps62
    go_wp2_with (go_at_call 68; refine (concat_any _ _ _ [] HZ.out HS.out hn).mono ?_; rintro e w1 ⟨rfl, hh, hb⟩)
    go_ret
    rw [World.size_alloc] at *
    exact ⟨rfl, hh, ((Below.refl _ w).alloc (Nat.le_refl _) _).trans (hb.mono (by omega))⟩
  · go_enter Tryd.func62, Tryd.ntmps62
    go_wp2_with (go_at_call 68; refine (concat_any _ _ _ bs HZ.out HS.out hn).mono ?_; rintro e w1 ⟨rfl, hh, hb⟩)
    go_ret
    rw [World.size_alloc] at *
    exact ⟨rfl, hh, ((Below.refl _ w).alloc (Nat.le_refl _) _).trans (hb.mono (by omega))⟩
end Go.Proofs.YtgebekklkodpaaaDoor

/-! Enc: frame.Encode -/
namespace Go.Proofs.YtgebekklkodpaaaDoor
open Go.RowKit

/-- a block's bytes ahead of its sum -/
def encHead (tag : Nat) (body : List Nat) : List Nat := [tag] ++ Uv.uv body.length ++ body
/-- a block's bytes -/
def enc (tag : Nat) (body : List Nat) : List Nat := encHead tag body ++ Uv.word (sum (encHead tag body))
theorem encHead_lt {tag : Nat} {body : List Nat} (ht : tag < 256) (hb : ∀ x ∈ body, x < 256) (hl : body.length < Uv.u64) : ∀ x ∈ encHead tag body, x < 256 := by
  intro x hx
  simp only [encHead, List.mem_append, List.mem_singleton] at hx
  rcases hx with (rfl | hx) | hx
  · exact ht
  · exact Uv.uv_lt _ hl x hx
  · exact hb x hx
theorem word_lt (v : Nat) : ∀ x ∈ Uv.word v, x < 256 := by
  intro x hx
  simp [Uv.word] at hx
  omega
theorem enc_lt {tag : Nat} {body : List Nat} (ht : tag < 256) (hb : ∀ x ∈ body, x < 256) (hl : body.length < Uv.u64) : ∀ x ∈ enc tag body, x < 256 := by
  intro x hx
  rcases List.mem_append.1 hx with hx | hx
  · exact encHead_lt ht hb hl x hx
  · exact word_lt _ x hx
theorem encHead_len (tag : Nat) (body : List Nat) : (encHead tag body).length ≤ body.length + 11 := by
  have := (Uv.uv_len body.length).1
  simp [encHead]; omega
theorem enc_len (tag : Nat) (body : List Nat) : (enc tag body).length ≤ body.length + 15 := by
  have := encHead_len tag body
  simp [enc, Uv.word]; omega

theorem below_drewN {B : Nat} {a w : World} (h : Below B a w) (n : Nat) : Below B a (w.drewN n) := ⟨h.os, h.tape, h.output, h.size, h.block⟩
theorem writer_keep {w w' : World} {B p : Nat} {bs : List Nat} (h : WriterIs w B p bs) (hb : Below w.heap.size w w') : WriterIs w' B p bs := by
  obtain ⟨hB, v, hp, hv⟩ := h
  have hg : w.grownBy w' none := ⟨hb.os, hb.tape, hb.output, hb.size, fun k hk _ => hb.block k hk⟩
  exact ⟨hB, v, (hb.block p (heap_lt hp)).trans hp, hv.kept hg (by cases v.ownBlock <;> simp)⟩
/-- what came in reads as it did -/
theorem src_keep {w w' : World} {v : Value} {bs : List Nat} (h : Src w v bs) (hb : Below w.heap.size w w') : Src w' v bs := by
  rcases h with ⟨h1, h2 | ⟨ad, cap, rfl, hl, hm, hc⟩⟩
  · exact ⟨h1, .inl h2⟩
  · refine ⟨h1, .inr ⟨ad, cap, rfl, hl, hm, fun k x hk => ?_⟩⟩
    have h := hc k x hk
    rw [hb.cell (World.block_lt_of_cell? w _ h)]
    exact h
/-- a block of bytes that is known whole reads as its bytes -/
theorem src_block {w : World} {g : Nat} {bs : List Nat} {fr : Nat × Nat} (h : w.heap[g]? = some (.cells (u8s bs).toArray 5 fr)) (hx : ∀ x ∈ bs, x < 256) (hl : bs.length ≤ 9223372036854775807) : Src w (.slice (some ⟨g, 0, none⟩) bs.length bs.length) bs := by
  refine ⟨hx, .inr ⟨_, _, rfl, Nat.le_refl _, hl, fun k x hk => ?_⟩⟩
  rw [Addr.add_mid, Nat.zero_add, cell_at h]
  simp [u8s, hk]

/-- a package-level error -/
def ErrAt (w : World) (g : Nat) (a : Addr) : Prop := w.cell? ⟨g, 0, none⟩ = some (.iface 124 (.pointer (some a)))

theorem zip_below {B : Nat} {w w' : World} (Z : Zip w) (h : Below B w w') (hg : 16 < B) : Zip w' := fun k hk => (h.cell (p := ⟨16, k, none⟩) hg).trans (Z k hk)
theorem seal_below {B : Nat} {w w' : World} (Z : SealT w) (h : Below B w w') (hg : 15 < B) : SealT w' := fun k hk => (h.cell (p := ⟨15, k, none⟩) hg).trans (Z k hk)
theorem err_below {B : Nat} {w w' : World} {g : Nat} {a : Addr} (Z : ErrAt w g a) (h : Below B w w') (hg : g < B) : ErrAt w' g a := (h.cell (p := ⟨g, 0, none⟩) hg).trans Z

theorem encode_zero (w : World) (a : Addr) (hE : ErrAt w 0 a) (v : Value) :
    Calls Tryd.prog 24 #[.int .u8 0, v] w fun e w' => e = .returned (.tuple #[.slice none 0 0, .iface 124 (.pointer (some a))]) ∧ Below w.heap.size w w' := by
  unfold ErrAt at hE
  go_enter Tryd.func24, Tryd.ntmps24
  go_wp2
  go_quiet (fail)
  go_wp2
  go_ret2
  exact ⟨rfl, below_drewN (Below.refl _ _) _⟩

set_option maxRecDepth 100000 in
set_option maxHeartbeats 1000000 in
theorem encode_pos (w : World) (Z : Zip w) (hg : 16 < w.heap.size) (tag : Nat) (ht : tag < 256) (h0 : tag ≠ 0) (v : Value) (body : List Nat) (hv : Src w v body) (hl : body.length ≤ 140737488355200) :
    Calls Tryd.prog 24 #[.int .u8 tag, v] w fun e w' => ∃ g, e = .returned (.tuple #[.slice (some ⟨g, 0, none⟩) (enc tag body).length (enc tag body).length, .nilIface]) ∧ w.heap.size ≤ g ∧
      w'.heap[g]? = some (.cells (u8s (enc tag body)).toArray 5 (0, 0)) ∧ Below w.heap.size w w' := by
  have ht0 : ((tag : Int) == 0) = false := by simp; omega
  have hu : body.length < Uv.u64 := by rw [Uv.u64_eq]; omega
  have hhl := encHead_len tag body
  have hel := enc_len tag body
  have hh := encHead_lt ht hv.1 hu
  have he := enc_lt ht hv.1 hu
  have hsl := sum_lt hh
  obtain ⟨ao, cap, hveq, _⟩ := src_bytes hv
  have HV := hide hv
  have HZ := hide Z
  have HH := hide hh
  have HE := hide he
  have HHL := hide hhl
  have HEL := hide hel
  have HU := hide hu
  have HS := hide hsl
  have HL := hide hl
  clear hv Z hh he hhl hel hu hsl h0
  subst hveq
  go_enter Tryd.func24, Tryd.ntmps24
  go_wp2_with fail
  refine (new_writer w).mono ?_
  rintro e w1 ⟨rfl, hW, hb1⟩
  have HW1 := hide hW
  have HB1 := hide hb1
  clear hW hb1
  go_wp2_with fail
  refine (writer_byte w1 _ _ tag [] HW1.out (by simp)).mono ?_
  rintro e w2 ⟨rfl, hW, hb2⟩
  have HW2 := hide hW
  have HB2 := hide (HB1.out.trans hb2)
  clear hW hb2
  go_wp2_with fail
  refine (writer_uvarint w2 _ _ body.length _ HU.out HW2.out (by simp)).mono ?_
  rintro e w3 ⟨rfl, hW, hb3⟩
  have HW3 := hide hW
  have HB3 := hide (HB2.out.trans hb3)
  clear hW hb3
  go_wp2_with fail
  refine (writer_raw w3 _ _ _ body _ HW3.out HB3.out.size (src_keep HV.out HB3.out) (by have := (Uv.uv_len body.length).1; simp; omega)).mono ?_
  rintro e w4 ⟨rfl, hW, hb4⟩
  have hW' : WriterIs w4 w.heap.size w.heap.size (encHead tag body) := hW
  have HW4 := hide hW'
  have HB4 := hide (HB3.out.trans hb4)
  clear hW hb4 hW'
  go_wp2_with fail
  refine (writer_bytes w4 _ _ _ HW4.out HH.out (by have := HHL.out; omega)).mono ?_
  rintro e w5 ⟨rfl, hh5, hb5⟩
  have HS5 := hide (src_block hh5 HH.out (by have := HHL.out; omega))
  have hs4 := HB4.out.size
  have HB5 := hide (HB4.out.trans (hb5.mono hs4))
  have hW5 : WriterIs w5 w.heap.size w.heap.size (encHead tag body) := writer_keep HW4.out hb5
  have HW5 := hide hW5
  have Z5 := hide (zip_below HZ.out HB5.out hg)
  clear hh5 hb5 hW5
  go_wp2_with fail
  refine (sum_any w5 Z5.out _ (encHead tag body) HS5.out (by have := HHL.out; omega)).mono ?_
  rintro e w' ⟨rfl, rfl⟩
  go_wp2_with fail
  refine (writer_word w5 _ _ (sum (encHead tag body)) _ HW5.out (by have := HHL.out; omega)).mono ?_
  rintro e w6 ⟨rfl, hW, hb6⟩
  have hW' : WriterIs w6 w.heap.size w.heap.size (enc tag body) := hW
  have HW6 := hide hW'
  have HB6 := hide (HB5.out.trans hb6)
  clear hW hb6 hW'
  go_wp2_with fail
  refine (writer_bytes w6 _ _ _ HW6.out HE.out (by have := HEL.out; omega)).mono ?_
  rintro e w7 ⟨rfl, hh7, hb7⟩
  have hs6 := HB6.out.size
  have HB7 := hide (HB6.out.trans (hb7.mono hs6))
  have HH7 := hide hh7
  clear hh7 hb7
  go_wp2
  go_ret2
  exact ⟨w6.heap.size + 1, rfl, by omega, HH7.out, HB7.out⟩
end Go.Proofs.YtgebekklkodpaaaDoor

/-! Str: bytes as strings -/
namespace Go.Proofs.YtgebekklkodpaaaDoor
open Go.RowKit

/-- these bytes as a string -/
def bstr (bs : List Nat) : ByteArray := ⟨(bs.map fun n => UInt8.ofNat n).toArray⟩
theorem bstr_inj {xs ys : List Nat} (hx : ∀ x ∈ xs, x < 256) (hy : ∀ x ∈ ys, x < 256) (h : bstr xs = bstr ys) : xs = ys := by
  have h1 : xs.map (fun n => UInt8.ofNat n) = ys.map (fun n => UInt8.ofNat n) := by
    have := congrArg (fun b : ByteArray => b.data.toList) h
    simpa [bstr] using this
  have h2 := congrArg (List.map UInt8.toNat) h1
  simp only [List.map_map] at h2
  have id_of : ∀ zs : List Nat, (∀ x ∈ zs, x < 256) → zs.map (UInt8.toNat ∘ fun n => UInt8.ofNat n) = zs := fun zs hz => by
    conv => rhs; rw [← List.map_id zs]
    exact List.map_congr_left (fun z hz' => by have := hz z hz'; simp; omega)
  rw [id_of xs hx, id_of ys hy] at h2
  exact h2
theorem under9 : Tryd.prog.underlying 9 = some .string := Tryd.underlying9
/-- 'string(b)' -/
theorem src_string {w : World} {v : Value} {bs : List Nat} (h : Src w v bs) : (convert 25 9 v).run Tryd.prog w = .ok (.string (bstr bs)) w := by
  rcases h with ⟨h1, ⟨rfl, rfl⟩ | ⟨ad, cap, rfl, _, _, hc⟩⟩
  · exact run_convert_bytes_nil w 25 5 Tryd.underlying25 Tryd.underlying5 0 0 9 under9
  · have h2 := run_convert_bytes_back (P := Tryd.prog) w 25 9 5 ad cap (bs.map fun n => UInt8.ofNat n) Tryd.underlying25 Tryd.underlying5 under9 (fun j hj => by
      simp only [List.length_map] at hj
      rw [hc j bs[j] (List.getElem?_eq_getElem hj)]
      have := h1 bs[j] (List.getElem_mem hj)
      simp
      omega)
    rw [List.length_map] at h2
    exact h2
theorem src_of_own {w : World} {B g n cap : Nat} {bs : List Nat} (h : w.ownsRow B 5 1 (.slice (some ⟨g, 0, none⟩) n cap) bs.length (u8s bs)) (hx : ∀ x ∈ bs, x < 256) : Src w (.slice (some ⟨g, 0, none⟩) n cap) bs := src_own h hx
end Go.Proofs.YtgebekklkodpaaaDoor

/-! Ap: append of bytes to an own row, in one term -/
namespace Go.Proofs.YtgebekklkodpaaaDoor
open Go.RowKit

/-- an own row of bytes at or above B -/
def Own (w : World) (B : Nat) (v : Value) (bs : List Nat) : Prop := w.ownsRow B 5 1 v bs.length (u8s bs)

set_option maxRecDepth 100000 in
theorem append_src {ops : Array Oper} {rest : List Oper} {o : Oper} {a : Act} {Q : Exit → Act → World → Prop} (w0 w : World) (B : Nat) (v xv : Value) (cur bs : List Nat) (hgd : o.guard = none) (s x : Operand)
    (ho : o.op = .call { callee := .builtin .append, args := #[s, x], argTypes := #[25, 25] }) (hs : a.eval s = v) (hx : a.eval x = xv)
    (hown : Own w B v cur) (hsrc : Src w xv bs) (hl : cur.length + bs.length ≤ 140737488355328) (hB : B ≤ w.heap.size) (hb : Below B w0 w)
    (h : ∀ v' w', Own w' B v' (cur ++ bs) → Below B w0 w' → wpList Tryd.prog ops Q rest (a.put o.dst v') w') :
    wpList Tryd.prog ops Q (o :: rest) a w := by
  obtain ⟨i0, hi, hz0, hz1, hz2⟩ := info_parts info5
  rcases hsrc with ⟨_, ⟨rfl, rfl⟩ | ⟨ad, cap, rfl, _, _, hc⟩⟩
  · refine wpList_append_own_none hgd s x 25 ho B 5 i0 1 Tryd.underlying25 hi v cur.length (u8s cur) hs hown hx (h v w ?_ hb)
    rw [List.append_nil]
    exact hown
  · refine wpList_append_own w hgd s x 25 ho B 5 i0 (.int .u8 0) 1 1 Tryd.underlying25 hi hz0 hz1 hz2 rfl (by decide) v cur.length (u8s cur) hs hown ad bs.length cap (u8s bs) hx (by simp [u8s_len]) (src_news hc) (u8s_one _) (by simp only [maxLen]; omega) (by omega) hB ?_
    intro v' w' hown' hg _
    refine h v' w' ?_ (hb.grown hg hB (fun k hk => (World.ownsRow.lt hown k hk).1))
    unfold Own
    rw [u8s_app, List.length_append]
    exact hown'

theorem own_src {w : World} {B : Nat} {v : Value} {bs : List Nat} (h : Own w B v bs) (hx : ∀ x ∈ bs, x < 256) : Src w v bs := src_own h hx
theorem own_lit (w : World) (B : Nat) (bs : List Nat) (hB : B ≤ w.heap.size) (hl : bs.length ≤ 9223372036854775807) (cs : Array Value) (hcs : cs = (u8s bs).toArray) :
    Own (w.alloc (.cells cs 5)) B (.slice (some ⟨w.heap.size, 0, none⟩) bs.length bs.length) bs := by
  subst hcs
  have h := World.ownsRow_lit (base := B) (e := 5) (size := 1) w (u8s bs).toArray bs.length hB (by simp only [maxLen]; omega) (by simp [u8s_len])
  simpa [Own] using h
theorem own_keep {w w' : World} {B : Nat} {v : Value} {bs : List Nat} (h : Own w B v bs) (hb : Below w.heap.size w w') : Own w' B v bs :=
  World.ownsRow.kept (row := none) h ⟨hb.os, hb.tape, hb.output, hb.size, fun k hk _ => hb.block k hk⟩ (by cases hv : v.ownBlock <;> simp)
theorem own_form {w : World} {B : Nat} {v : Value} {bs : List Nat} (h : Own w B v bs) (hl : 0 < bs.length) : ∃ g cap, v = .slice (some ⟨g, 0, none⟩) bs.length cap := Joins.ownsRow_form h hl
/-- the shape of a byte slice's value -/
theorem src_form {w : World} {v : Value} {bs : List Nat} (h : Src w v bs) : ∃ ao cap, v = .slice ao bs.length cap := by
  obtain ⟨ao, cap, h, _⟩ := src_bytes h
  exact ⟨ao, cap, h⟩
end Go.Proofs.YtgebekklkodpaaaDoor

/-! Rd: codec.Reader -/
namespace Go.Proofs.YtgebekklkodpaaaDoor
open Go.RowKit

def RdAt (w : World) (p at_ : Nat) (bv : Value) (n : Nat) : Prop := w.heap[p]? = some (.cells #[.int .i64 at_, .int .i64 n, bv] 120 (0, 0))

theorem cells3 {w : World} {p : Nat} {a b c : Value} {t : TypeId} {fr : Nat × Nat} (h : w.heap[p]? = some (.cells #[a, b, c] t fr)) :
    w.cell? ⟨p, 0, none⟩ = some a ∧ w.cell? ⟨p, 1, none⟩ = some b ∧ w.cell? ⟨p, 2, none⟩ = some c := by
  refine ⟨?_, ?_, ?_⟩
  · rw [cell_at h]; rfl
  · rw [cell_at h]; rfl
  · rw [cell_at h]; rfl

theorem left_any (w : World) (p a n : Nat) (bv : Value) (h : RdAt w p a bv n) (hn : a ≤ n) (hn2 : n ≤ 9223372036854775807) :
    Calls Tryd.prog 76 #[.pointer (some ⟨p, 0, none⟩)] w fun e w' => e = .returned (.int .i64 ((n : Int) - a)) ∧ ∃ q, w' = w.drewN q := by
  obtain ⟨h0, h1, h2⟩ := cells3 h
  clear h
  have hw : IntKind.i64.wrap ((n : Int) - a) = (n : Int) - a := by rw [IntKind.wrap_i64]; omega
  go_enter Tryd.func76, Tryd.ntmps76
  go_wp2
  go_quiet (fail)
  go_wp2
  go_ret
  exact ⟨rfl, _, rfl⟩

theorem at_any (w : World) (p a n : Nat) (bv : Value) (h : RdAt w p a bv n) :
    Calls Tryd.prog 75 #[.pointer (some ⟨p, 0, none⟩)] w fun e w' => e = .returned (.int .i64 (a : Int)) ∧ w = w' := by
  obtain ⟨h0, h1, h2⟩ := cells3 h
  clear h
  go_enter Tryd.func75, Tryd.ntmps75
  go_wp2
  go_ret
  exact ⟨rfl, rfl⟩

set_option maxRecDepth 100000 in
theorem new_reader (w : World) (v : Value) (bs : List Nat) (hs : Src w v bs) (hn : bs.length ≤ 140737488355328) :
    Calls Tryd.prog 73 #[v] w fun e w' => ∃ p bv, e = .returned (.pointer (some ⟨p, 0, none⟩)) ∧ w.heap.size ≤ p ∧ RdAt w' p 0 bv bs.length ∧ Src w' bv bs ∧ Below w.heap.size w w' := by
  obtain ⟨ao, cap, rfl⟩ := src_form hs
  have HS := hide hs
  clear hs
  go_enter Tryd.func73, Tryd.ntmps73
  go_wp2_with fail
  have HBA := hide ((Below.refl w.heap.size w).alloc (Nat.le_refl _) (.cells #[.slice ao bs.length cap] 25))
  refine (concat_any _ w.heap.size (.slice ao bs.length cap) bs (by rw [World.cell?_alloc_new]; rfl) (src_keep HS.out HBA.out) hn).mono ?_
  rintro e w1 ⟨rfl, hh, hb⟩
  have HB1 := hide (HBA.out.trans (hb.mono HBA.out.size))
  rw [World.size_alloc] at hh
  have HS1 := hide (src_block hh HS.out.1 (by omega))
  clear hh hb
  go_wp2
  go_ret
  exact ⟨w1.heap.size, _, rfl, HB1.out.size, heap_new rfl _, src_keep HS1.out ((Below.refl _ _).alloc (Nat.le_refl _) _), HB1.out.alloc HB1.out.size _⟩
end Go.Proofs.YtgebekklkodpaaaDoor

/-! Nm: the plain law of a number in bytes -/
namespace Go.Proofs.YtgebekklkodpaaaDoor.Nm

/-- the number that bytes make -/
def val : List Nat → Nat
  | [] => 0
  | x :: r => x % 128 + 128 * val r
/-- from index i on, f bytes at most: how many bytes it has, the error (1 short, 2 varint) -/
def num : Nat → Nat → List Nat → Nat × Nat
  | 0, _, _ => (0, 1)
  | f + 1, i, bs =>
    match bs[i]? with
    | none => (0, 1)
    | some x => if i = 9 ∧ 1 < x then (0, 2) else if 128 ≤ x then num f (i + 1) bs else if x = 0 ∧ 0 < i then (0, 2) else (i + 1, 0)

theorem val_app (xs : List Nat) (x : Nat) : val (xs ++ [x]) = val xs + x % 128 * 128 ^ xs.length := by
  induction xs with
  | nil => simp [val]
  | cons y r ih =>
    simp only [List.cons_append, val, ih, List.length_cons, Nat.pow_succ]
    rw [Nat.mul_add, Nat.add_assoc]
    congr 2
    rw [Nat.mul_comm 128, Nat.mul_assoc]
theorem val_lt (xs : List Nat) : val xs < 128 ^ xs.length := by
  induction xs with
  | nil => simp [val]
  | cons y r ih =>
    simp only [val, List.length_cons, Nat.pow_succ]
    have := Nat.mod_lt y (show 0 < 128 by decide)
    have : val r + 1 ≤ 128 ^ r.length := ih
    omega
theorem val_take {bs : List Nat} {i x : Nat} (h : bs[i]? = some x) : val (bs.take (i + 1)) = val (bs.take i) + x % 128 * 128 ^ i := by
  obtain ⟨hl, _⟩ := List.getElem?_eq_some_iff.1 h
  rw [List.take_add_one, h, Option.toList_some, val_app, List.length_take, Nat.min_eq_left (by omega)]
theorem val_take_lt (bs : List Nat) (i : Nat) : val (bs.take i) < 128 ^ i := by
  refine Nat.lt_of_lt_of_le (val_lt _) (Nat.pow_le_pow_right (by decide) ?_)
  rw [List.length_take]
  omega
theorem num_take {f i : Nat} (bs : List Nat) (h : i + f ≤ 10) : num f i (bs.take 10) = num f i bs := by
  induction f generalizing i with
  | zero => rfl
  | succ f ih =>
    rw [num, num, List.getElem?_take, if_pos (by omega)]
    cases hb : bs[i]? with
    | none => rfl
    | some x => simp only [ih (i := i + 1) (by omega)]
/-- what a good answer tells -/
theorem num_ok {f i n : Nat} {bs : List Nat} (hf : i + f ≤ 10) (h : num f i bs = (n, 0)) : i < n ∧ n ≤ 10 ∧ n ≤ bs.length ∧ ∃ x, bs[n - 1]? = some x ∧ x < 128 ∧ (n = 10 → x ≤ 1) ∧ (1 < n → 0 < x) := by
  induction f generalizing i with
  | zero => simp [num] at h
  | succ f ih =>
    rw [num] at h
    cases hb : bs[i]? with
    | none => rw [hb] at h; simp at h
    | some x =>
      obtain ⟨hl, _⟩ := List.getElem?_eq_some_iff.1 hb
      rw [hb] at h
      simp only at h
      split at h
      · simp at h
      · split at h
        · have := ih (by omega) h
          exact ⟨by omega, this.2⟩
        · split at h
          · simp at h
          · simp only [Prod.mk.injEq, and_true] at h
            subst h
            refine ⟨by omega, by omega, by omega, x, by simpa using hb, by omega, by omega, by omega⟩
theorem num_err {f i : Nat} (bs : List Nat) : (num f i bs).2 = 0 ∨ num f i bs = (0, 1) ∨ num f i bs = (0, 2) := by
  induction f generalizing i with
  | zero => exact .inr (.inl rfl)
  | succ f ih =>
    rw [num]
    cases bs[i]? with
    | none => exact .inr (.inl rfl)
    | some x =>
      simp only
      split
      · exact .inr (.inr rfl)
      · split
        · exact ih
        · split
          · exact .inr (.inr rfl)
          · exact .inl rfl
theorem val_ok {n : Nat} {bs : List Nat} (h : num 10 0 bs = (n, 0)) : val (bs.take n) < 18446744073709551616 := by
  obtain ⟨h1, h2, h3, x, hx, hx128, hx10, _⟩ := num_ok (by omega) h
  obtain ⟨m, rfl⟩ : ∃ m, n = m + 1 := ⟨n - 1, by omega⟩
  simp only [Nat.add_sub_cancel] at hx
  rw [val_take hx]
  have hv := val_take_lt bs m
  by_cases hm : m = 9
  · subst hm
    have := hx10 rfl
    have : x % 128 = x := by omega
    rw [this]
    have e : (128 : Nat) ^ 9 = 9223372036854775808 := by decide
    rw [e] at *
    have : x * 9223372036854775808 ≤ 1 * 9223372036854775808 := Nat.mul_le_mul_right _ (by omega)
    omega
  · have hp : 128 ^ (m + 1) ≤ 128 ^ 9 := Nat.pow_le_pow_right (by decide) (by omega)
    have e : (128 : Nat) ^ 9 = 9223372036854775808 := by decide
    have hs : 128 ^ (m + 1) = 128 ^ m * 128 := Nat.pow_succ ..
    have hx2 : x % 128 * 128 ^ m ≤ 127 * 128 ^ m := Nat.mul_le_mul_right _ (by omega)
    rw [e] at hp
    omega
theorem val_drop_le (l : List Nat) (j : Nat) : val (l.drop j) ≤ val l := by
  induction l generalizing j with
  | nil => simp
  | cons x r ih =>
    cases j with
    | zero => simp
    | succ j =>
      have := ih j
      rw [List.drop_succ_cons, val]
      omega
theorem val_drop {l : List Nat} {j x : Nat} (h : l[j]? = some x) : val (l.drop j) = x % 128 + 128 * val (l.drop (j + 1)) := by
  rw [List.drop_eq_getElem?_toList_append, h]
  rfl
end Go.Proofs.YtgebekklkodpaaaDoor.Nm
