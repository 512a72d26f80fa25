/- A region that draws its order, in a round of a range over a function: what the plain walk shows of it serves; plain, for any program. -/
import Derived.Test.YtmkbbekeimnajaaDoorRq
import Derived.StillTailTactics
namespace Go.Proofs.YtmkbbekeimnajaaDoor
open Go.RowKit
variable {n : Nat} {P : Program} {ops : Array Oper} {Q : Exit → Act → World → Prop}
theorem rowsIn_wide' {row : String} {args : Array Value} {w : World} {R : Value → World → Prop} (h : Rows P row args w R) : RowsIn Fence.wide n P row args w R :=
  fun c cs _ => let ⟨v, w', r, s⟩ := h c cs; ⟨v, w', r, stepsIn_wide.2 s⟩
theorem operIn_wide {o : Oper} {a : Act} {w : World} {K : Act → World → Prop} (h : o.wp P a w K Q) : o.wpIn Fence.wide n P a w K Q := by
  unfold Oper.wpIn
  refine ⟨fun _ _ => trivial, ?_⟩
  have h' : o.upon P a K Q ((o.semAt Fence.wide.round a.eval).run P w) := h
  generalize (o.semAt Fence.wide.round a.eval).run P w = r at h' ⊢
  cases r with
  | ok x w' =>
    cases x <;> simp only [Oper.upon, Oper.uponIn] at h' ⊢ <;>
      first
        | exact h'
        | exact ⟨fun e => (by cases e), callsIn_wide.2 h'⟩
        | exact ⟨fun e => (by cases e), rowsIn_wide' h'⟩
        | exact h'.elim
  | halt x w' => cases x <;> simp only [Oper.upon, Oper.uponIn] at h' ⊢ <;> exact h'
theorem anyIn_wide {md : Region.Mode} (hQ : ¬ LetsOut Q) : ∀ (fuel : Nat) (listed : Array Bool) (a : Act) (w : World), wpAny P md ops Q fuel listed a w → wpAnyIn Fence.wide n P md ops Q fuel listed a w
  | 0, _, _, _, h => h
  | fuel + 1, listed, a, w, h => by
    refine ⟨h.1, fun i hi => ?_⟩
    have h1 := h.2 i hi
    unfold wpOp at h1
    unfold wpOpIn
    cases ho : ops[i]? with
    | none =>
      simp only [ho] at h1 ⊢
      exact anyIn_wide hQ fuel _ _ _ h1
    | some o =>
      simp only [ho] at h1 ⊢
      split
      · rename_i hw
        rw [if_pos hw] at h1
        exact Oper.wpIn_mono (fun a w => anyIn_wide hQ fuel _ a w) (operIn_wide (h1.resolve_right fun h => hQ h.2))
      · rename_i hw
        rw [if_neg hw] at h1
        exact ⟨fun _ _ => trivial, anyIn_wide hQ fuel _ _ _ h1⟩
/-- any region that draws, in a round -/
theorem region_any_round {id l : Nat} {a : Act} {w : World} {os : List Oper} (hQ : ¬ LetsOut Q) (hm : P.follows .mixedOrders = true) (hp : os.all noDefer = true)
    (h : wpAny P .any os.toArray Q os.toArray.size (Array.replicate os.toArray.size false) a { w with drawn := w.drawn + 1 }) : (Code.region id os.toArray true).wpIn (Fence.wide.inRound l) n P Q a w :=
  wpIn_region_any hm (any_round l rfl (fun i o ho => List.all_eq_true.1 hp o (by simpa using Array.mem_of_getElem? ho)) _ _ _ _ (anyIn_wide hQ _ _ _ _ h))
/-- reads, then what stands last -/
theorem region_still_round {id k : Nat} {a : Act} {w : World} {l : List Oper} (m : Nat) (hQ : ¬ LetsOut Q) (hm : P.follows .mixedOrders = true) (hp : l.all noDefer = true) (hB : Region.lexTailB .any l.toArray m = true)
    (h : wpStill P l.toArray { w with drawn := w.drawn + 1 } (fun a' => wpList P l.toArray Q (l.drop m) a' { w with drawn := w.drawn + 1 }) (l.take m) a) : (Code.region id l.toArray true).wpIn (Fence.wide.inRound k) n P Q a w := by
  simp only [Region.lexTailB, Bool.and_eq_true, decide_eq_true_eq] at hB
  obtain ⟨⟨⟨⟨hsel, hn⟩, hs⟩, hc⟩, hlex⟩ := hB
  have hn' : m < l.length := by simpa using hn
  have htl : (l.take m).length = m := by simp; omega
  have hdl : (l.drop m).length = l.toArray.size - m := by simp
  have inv0 : HeadInv .any l.toArray m (Array.replicate l.toArray.size false) :=
    ⟨by simp, fun j oj _ hl => (by rw [getD_replicate_false] at hl; cases hl), fun t _ ht => getD_in (by simpa using ht) (getD_replicate_false _ _)⟩
  have H := wpAnyL_lex (md := .any) (g := l.toArray.size - m) hsel hs hc hn (l.take m) 0 _ a (fun j hj => by
    have hj' : j < m := by rw [htl] at hj; exact hj
    simp [hj']) (by simpa using htl) inv0 (by rw [htl]; exact hlex) h
  refine region_any_round hQ hm hp ?_
  have := wpAny_of_head (Q' := Q) (g := l.toArray.size - m) (fun listed a' hL => by
    have := wpAny_of_seq (md := .any) (Q' := Q) (l.drop m) m listed a' { w with drawn := w.drawn + 1 } (fun j => by simp [List.getElem?_drop]) (by rw [hdl]; exact hL.1) hL.2
    rwa [hdl] at this) _ _ _ H
  rw [htl, show m + (l.toArray.size - m) = l.toArray.size by omega] at this
  exact this
end Go.Proofs.YtmkbbekeimnajaaDoor
