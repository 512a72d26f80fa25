/- A range over a function: the frame of a round named by what is handed over; plain, for any program. The marks that loops leave. -/
import Derived.Test.YtmkbbekeimnajaaDoorRf
import Derived.RangeFuncBox
import Derived.RangeFuncLeaves
namespace Go.Proofs.YtmkbbekeimnajaaDoor
open Go.RowKit
variable {F : Fence} {n : Nat} {P : Program}
theorem ownFrom_and {β : Type} {B : Nat} {p : Prop} {I : β → World → Prop} (h : OwnFrom B I) : OwnFrom B (fun s W => p ∧ I s W) := fun s A C row hs hg hr => ⟨hs.1, h s A C row hs.2 hg hr⟩
theorem range_fr {α : Type} {g : Operand} {ps : Array Tmp} {assign body : Code} {Q : Exit → Act → World → Prop} {a : Act} {w : World} (fr : α → Act)
    (hro : F.round = none) (h1 : 1 ≤ n) {gf : Nat} {lb : Array Value} (hg : a.eval g = .func (.func gf) #[] lb) (hFg : F.fn gf) (eg : ∀ args w, (callFunc gf args).run P w = .ok (.enter gf args) w)
    {encs : α → Array Value} {Ok : List α → World → α → World → Prop} {Sa Sp : List α → Prop} {S : Nat → Prop} (hseq : TellsAt F (n - 1) P gf lb encs Ok Sa Sp S w) (hB : ∀ k, S k → k < w.heap.size) (hps : ∀ x, (encs x).size = ps.size)
    (I : List α → World → Prop) (Ix : Code → List α → World → Prop) (T : List α → α → World → Prop) (hI : OwnFrom w.heap.size I) (hIx : ∀ c, OwnFrom w.heap.size (Ix c)) (hT : OwnFrom w.heap.size (fun (s : List α × α) W => T s.1 s.2 W)) (h0 : I [] w)
    (hassign : ∀ (l : Nat) (pre : List α) (x : α) (A C : World) (K : Act → World → Prop), I pre A → Below A.heap.size A C → Ok pre A x C → w.heap.size ≤ A.heap.size → (∀ C', KeepsFrom w.heap.size C C' → Same S C C' → T pre x C' → K (fr x) C') →
      assign.wpIn (F.inRound l) (n - 1 - 1) P (Exit.then K (fun _ _ _ => False)) { tmps := (ps.zip (encs x)).foldl (fun t (p, v) => t.setIfInBounds p v) a.tmps, defers := [] } C)
    (hbody : ∀ (l : Nat) (pre : List α) (x : α) (W : World), T pre x W → body.wpIn (F.inRound l) (n - 1 - 1) P (ownPostG w.heap.size (Same S) I Ix (pre ++ [x]) W) (fr x) W)
    (hdone : ∀ (D : Nat) (xs : List α) (W : World), w.heap.size ≤ D → Sa xs → I xs W → W.heap[D]? = some (.deferred (some [])) → Q .normal { a with defers := { target := .collected D, args := #[] } :: a.defers } W)
    (hstop : ∀ (D : Nat) (c : Code) (pre : List α) (W : World), w.heap.size ≤ D → Sp pre → Ix c pre W → W.heap[D]? = some (.deferred (some [])) → c.wpIn F n P Q { a with defers := { target := .collected D, args := #[] } :: a.defers } W) :
    (Code.rangeFunc g ps assign body).wpIn F n P Q a w :=
  range_told_at hro h1 hg hFg eg hseq hB hps I Ix (fun pre x a' W => a' = fr x ∧ T pre x W) hI hIx (fun a' s A C row hs hg hr => ⟨hs.1, hT s A C row hs.2 hg hr⟩) h0
    (fun l pre x A C K hi hb hok hz hk => hassign l pre x A C K hi hb hok hz (fun C' h1 h2 h3 => hk _ C' h1 h2 ⟨rfl, h3⟩))
    (fun l pre x a' W ⟨e, ht⟩ => by subst e; exact hbody l pre x W ht) hdone hstop
/-- the ways out of a loop, its end and its break, meet -/
theorem range_join {α : Type} {g : Operand} {ps : Array Tmp} {assign body : Code} {b : Nat} {Q : Exit → Act → World → Prop} {a : Act} {w : World} (fr : α → Act)
    (hro : F.round = none) (h1 : 1 ≤ n) {gf : Nat} {lb : Array Value} (hg : a.eval g = .func (.func gf) #[] lb) (hFg : F.fn gf) (eg : ∀ args w, (callFunc gf args).run P w = .ok (.enter gf args) w)
    {encs : α → Array Value} {Ok : List α → World → α → World → Prop} {Sa Sp : List α → Prop} {S : Nat → Prop} (hseq : TellsAt F (n - 1) P gf lb encs Ok Sa Sp S w) (hB : ∀ k, S k → k < w.heap.size) (hps : ∀ x, (encs x).size = ps.size)
    (I : List α → World → Prop) (Ix : List α → World → Prop) (T : List α → α → World → Prop) (J : World → Prop) (hI : OwnFrom w.heap.size I) (hIx : OwnFrom w.heap.size Ix) (hT : OwnFrom w.heap.size (fun (s : List α × α) W => T s.1 s.2 W)) (h0 : I [] w)
    (hassign : ∀ (l : Nat) (pre : List α) (x : α) (A C : World) (K : Act → World → Prop), I pre A → Below A.heap.size A C → Ok pre A x C → w.heap.size ≤ A.heap.size → (∀ C', KeepsFrom w.heap.size C C' → Same S C C' → T pre x C' → K (fr x) C') →
      assign.wpIn (F.inRound l) (n - 1 - 1) P (Exit.then K (fun _ _ _ => False)) { tmps := (ps.zip (encs x)).foldl (fun t (p, v) => t.setIfInBounds p v) a.tmps, defers := [] } C)
    (hbody : ∀ (l : Nat) (pre : List α) (x : α) (W : World), T pre x W → body.wpIn (F.inRound l) (n - 1 - 1) P (ownPostG w.heap.size (Same S) I (fun c pre W => c = .exit b ∧ Ix pre W) (pre ++ [x]) W) (fr x) W)
    (hdone : ∀ (xs : List α) (W : World), Sa xs → I xs W → J W) (hstop : ∀ (pre : List α) (W : World), Sp pre → Ix pre W → J W)
    (hafter : ∀ (D : Nat) (W : World), w.heap.size ≤ D → J W → W.heap[D]? = some (.deferred (some [])) → Q .normal { a with defers := { target := .collected D, args := #[] } :: a.defers } W) :
    (Code.rangeFunc g ps assign body).wpIn F n P (Exit.inBlock b Q) a w :=
  range_fr fr hro h1 hg hFg eg hseq hB hps I (fun c pre W => c = .exit b ∧ Ix pre W) T hI (fun _ s A C row hs hg hr => ⟨hs.1, hIx s A C row hs.2 hg hr⟩) hT h0 hassign hbody
    (fun D xs W hD hs hi hd => hafter D W hD (hdone xs W hs hi) hd)
    (fun D c pre W hD hs hi hd => by
      obtain ⟨rfl, hx⟩ := hi
      refine wpIn_exit ?_
      simp only [Exit.inBlock, if_true]
      exact hafter D W hD (hstop pre W hs hx) hd)
def mk_ (D : Nat) : Deferred := { target := .collected D, args := #[] }
/-- the blocks of the marks: apart, new, no call in them -/
def Marks (W : World) (B : Nat) (Ds : List Nat) : Prop := Ds.Nodup ∧ ∀ D ∈ Ds, B ≤ D ∧ W.heap[D]? = some (.deferred (some []))
theorem marks_nil (W : World) (B : Nat) : Marks W B [] := ⟨List.nodup_nil, by simp⟩
def Past (W W' : World) (B : Nat) : Prop := Below B W W' ∧ ∀ (k : Nat) (cs : Array Value) (t : TypeId) (fr : Nat × Nat), W.heap[k]? = some (.cells cs t fr) → W'.heap[k]? = some (.cells cs t fr)
theorem leaves_marks {fn : Func} {tmps : Array Value} {R : Ending → World → Prop} {B : Nat} : ∀ (Ds : List Nat) (W : World), Marks W B Ds → B ≤ W.heap.size → (∀ W', Past W W' B → LeavesInM F n P fn tmps R [] .returning W') → LeavesInM F n P fn tmps R (Ds.map mk_) .returning W
  | [], W, _, _, h => h W ⟨Below.refl _ _, fun _ _ _ _ hk => hk⟩
  | D :: Ds, W, hM, hB, h => by
    obtain ⟨hnd, hall⟩ := hM
    obtain ⟨hBD, hD⟩ := hall D (by simp)
    have hg := grownBy_putObj' W D (.deferred none)
    refine ⟨by simp, .inl ⟨D, _, rfl, run_takeDeferred hD, ?_⟩⟩
    refine leaves_marks Ds _ ⟨(List.nodup_cons.1 hnd).2, fun D' hD' => ⟨(hall D' (by simp [hD'])).1, ?_⟩⟩ (Nat.le_trans hB hg.size) fun W' hp => h W' ⟨?_, fun k cs t fr hk => hp.2 k cs t fr ?_⟩
    · have hne : D' ≠ D := fun e => (List.nodup_cons.1 hnd).1 (e ▸ hD')
      exact (World.putObj_heap_other hne).trans (hall D' (by simp [hD'])).2
    · exact ((Below.refl B W).grown hg hB (fun k e => by cases e; exact hBD)).trans hp.1
    · refine (World.putObj_heap_other (fun e => ?_)).trans hk
      subst e
      rw [hk] at hD
      cases hD
end Go.Proofs.YtmkbbekeimnajaaDoor
