/- plain: the rules of the algebra -/
import Derived.Test.YtmkbbekeimnajaaDoorEq
import Derived.Test.YtmkbbekeimnajaaDoorMx2
import Derived.Test.YtmkbbekeimnajaaDoorNt
namespace Go.Proofs.YtmkbbekeimnajaaDoor
open Go.RowKit Ds
def mAnd (a b : Nat → Bool) : Nat → Bool := fun i => a i && b i
def mOr (a b : Nat → Bool) : Nat → Bool := fun i => a i || b i
def mMinus (a b : Nat → Bool) : Nat → Bool := fun i => a i && !b i
section
variable {a b : Nat → Bool} {N : Nat}
theorem alg_nn (ha : ∀ i, N ≤ i → a i = false) : neg (neg a N) N = a := by
  funext i
  unfold neg
  by_cases h : i < N
  · simp [h]
  · rw [decide_eq_false h, ha i (by omega)]; rfl
theorem alg_and : neg (mAnd a b) N = mOr (neg a N) (neg b N) := by
  funext i
  unfold neg mAnd mOr
  dsimp only
  cases decide (i < N) <;> cases a i <;> cases b i <;> rfl
theorem alg_or : neg (mOr a b) N = mAnd (neg a N) (neg b N) := by
  funext i
  unfold neg mAnd mOr
  dsimp only
  cases decide (i < N) <;> cases a i <;> cases b i <;> rfl
theorem alg_minus (ha : ∀ i, N ≤ i → a i = false) : mMinus a b = mAnd a (neg b N) := by
  funext i
  unfold neg mAnd mMinus
  dsimp only
  by_cases h : i < N
  · rw [decide_eq_true h]; cases a i <;> cases b i <;> rfl
  · rw [ha i (by omega)]; rfl
theorem alg_andc : mAnd b a = mAnd a b := by funext i; unfold mAnd; cases a i <;> cases b i <;> rfl
theorem alg_orc : mOr b a = mOr a b := by funext i; unfold mOr; cases a i <;> cases b i <;> rfl
theorem alg_split : mOr (mMinus a b) (mAnd a b) = a := by funext i; unfold mOr mMinus mAnd; cases a i <;> cases b i <;> rfl
theorem alg_self : mAnd a a = a := by funext i; unfold mAnd; cases a i <;> rfl
theorem alg_none : cnt (mAnd a (neg a N)) N = 0 := by
  rw [← cnt_none N]
  exact cnt_congr fun i hi => by unfold mAnd neg; cases decide (i < N) <;> cases a i <;> rfl
end
theorem alg_sum (a b : Nat → Bool) : ∀ N, cnt (mAnd a b) N + cnt (mOr a b) N = cnt a N + cnt b N
  | 0 => rfl
  | N + 1 => by
    have ih := alg_sum a b N
    rw [cnt_succ, cnt_succ, cnt_succ, cnt_succ]
    have e1 : mAnd a b N = (a N && b N) := rfl
    have e2 : mOr a b N = (a N || b N) := rfl
    rw [e1, e2]
    cases a N <;> cases b N <;> simp <;> omega
theorem alike_eq (w : World) {S1 g1 cap1 S2 g2 cap2 n : Nat} {m1 m2 : Nat → Bool} (h1 : SetAt w S1 g1 cap1 n m1) (h2 : SetAt w S2 g2 cap2 n m2) (hm : m1 = m2) :
    Calls Tryd.prog 27 #[.pointer (some ⟨S1, 0, none⟩), .pointer (some ⟨S2, 0, none⟩)] w fun e w' => e = .returned (.bool true) ∧ Below w.heap.size w w' := by
  subst hm
  exact alike_same w h1 h2
theorem bytes_same (w : World) (v1 v2 : Value) (xs : List Nat) (h1 : Src w v1 xs) (h2 : Src w v2 xs) :
    Calls Tryd.prog 28 #[v1, v2] w fun e w' => e = .returned (.bool true) ∧ w = w' := (bytes_equal w v1 v2 xs xs h1 h2).mono fun e w' ⟨he, hw⟩ => ⟨by rw [he]; simp, hw⟩
end Go.Proofs.YtmkbbekeimnajaaDoor
