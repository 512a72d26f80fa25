/- texts of this proof, one behind the other: Si WCanon Fr Tbl Opn -/
import Derived.Test.YtmkbbekeimnajaaDoorMCanon0
import Derived.Test.YtmkbbekeimnajaaDoorMCanon1
import Derived.Test.YtmkbbekeimnajaaDoorMCanon2
import Derived.Test.YtmkbbekeimnajaaDoorMCanon3
import Derived.Test.YtmkbbekeimnajaaDoorMCanon4
import Derived.Test.YtmkbbekeimnajaaDoorMCanon5
import Derived.Test.YtmkbbekeimnajaaDoorMCanon6
import Derived.Test.YtmkbbekeimnajaaDoorMCanon7
import Derived.Test.YtmkbbekeimnajaaDoorMCanon8
import Derived.Test.YtmkbbekeimnajaaDoorCards
import Derived.Test.YtmkbbekeimnajaaDoorTie
import Derived.ProofKit
import Derived.OpenShut
import Derived.Deep.DeepHandedRow
import Derived.LaidMore
import Derived.LaidHandle
import Derived.Stop.LaidErr
import Derived.SizedLaws
import Derived.Lib.LaidTab
/-! Si: what stays over the rounds of DocsetIters -/
namespace Go.Proofs.YtmkbbekeimnajaaDoor
open Go.RowKit Ds
/-- all blocks of cells lie as they lay -/
def KeepC (X C : World) : Prop := ∀ (k : Nat) (cs : Array Value) (t : TypeId) (fr : Nat × Nat), X.heap[k]? = some (.cells cs t fr) → C.heap[k]? = some (.cells cs t fr)
theorem keepC_grown {X C : World} {row : Option Nat} (hg : X.grownBy C row) (hr : ∀ r, row = some r → ∃ o : Obj, X.heap[r]? = some o ∧ o.isCells = false) : KeepC X C := fun k cs t fr hk => by
  refine (hg.block k (heap_lt hk) (fun e => ?_)).trans hk
  obtain ⟨o, ho, hn⟩ := hr k e.symm
  rw [hk] at ho
  cases ho
  cases hn
theorem keepC_below {X C : World} (hb : Below X.heap.size X C) : KeepC X C := fun k _ _ _ hk => (hb.block k (heap_lt hk)).trans hk
theorem SetAt.keepC {X C : World} {S g cap n : Nat} {m : Nat → Bool} (h : SetAt X S g cap n m) (hk : KeepC X C) : SetAt C S g cap n m := by
  obtain ⟨cur, h1, h2, h3⟩ := h.ws
  exact ⟨hk _ _ _ _ h.hd, ⟨cur, hk _ _ _ _ h1, h2, h3⟩, h.cap, h.off, h.small⟩
structure Sit (w W1 X : World) (S g cap N b13 b8 at_ : Nat) : Prop where
  below : Below w.heap.size w X
  size : W1.heap.size ≤ X.heap.size
  rest : ∀ (k : Nat) (cs : Array Value) (t : TypeId) (fr : Nat × Nat), W1.heap[k]? = some (.cells cs t fr) → k ≠ S → k ≠ g → k ≠ b13 → k ≠ b8 → X.heap[k]? = some (.cells cs t fr)
  set : ∃ m, SetAt X S g cap N m
  idx : X.heap[b13]? = some (.cells #[.int .i64 (at_ : Nat)] 3 (0, 0))
  res : X.heap[b8]? = some (.cells #[.bool false] 4 (0, 0))
section
variable {w W1 X C : World} {S g cap N b13 b8 at_ : Nat}
theorem Sit.keepC (h : Sit w W1 X S g cap N b13 b8 at_) (hk : KeepC X C) (hb : Below w.heap.size X C) : Sit w W1 C S g cap N b13 b8 at_ :=
  ⟨h.below.trans hb, Nat.le_trans h.size hb.size, fun k cs t fr hx a b c d => hk _ _ _ _ (h.rest k cs t fr hx a b c d), let ⟨m, hm⟩ := h.set; ⟨m, hm.keepC hk⟩, hk _ _ _ _ h.idx, hk _ _ _ _ h.res⟩
theorem Sit.grown {row : Option Nat} (h : Sit w W1 X S g cap N b13 b8 at_) (hw : w.heap.size ≤ W1.heap.size) (hg : X.grownBy C row) (hr : ∀ r, row = some r → W1.heap.size ≤ r ∧ ∃ o : Obj, X.heap[r]? = some o ∧ o.isCells = false) : Sit w W1 C S g cap N b13 b8 at_ :=
  h.keepC (keepC_grown hg (fun r e => (hr r e).2)) ((Below.refl _ X).grown hg h.below.size (fun r e => Nat.le_trans hw (hr r e).1))
theorem Sit.later (h : Sit w W1 X S g cap N b13 b8 at_) (hb : Below X.heap.size X C) : Sit w W1 C S g cap N b13 b8 at_ :=
  h.keepC (keepC_below hb) (hb.mono h.below.size)
theorem Sit.drew (h : Sit w W1 X S g cap N b13 b8 at_) (q : Nat) : Sit w W1 (X.drewN q) S g cap N b13 b8 at_ := h.later (below_drewN (Below.refl _ _) q)
/-- the set has changed -/
theorem Sit.foot {m : Nat → Bool} (h : Sit w W1 X S g cap N b13 b8 at_) (hs : SetAt C S g cap N m) (hf : Foot X C (fun k => k = S ∨ k = g)) (hS : w.heap.size ≤ S) (hgg : w.heap.size ≤ g) (e1 : S ≠ b13) (e2 : S ≠ b8) (e3 : g ≠ b13) (e4 : g ≠ b8) : Sit w W1 C S g cap N b13 b8 at_ := by
  have kb : ∀ (k : Nat) (o : Obj), X.heap[k]? = some o → k ≠ S → k ≠ g → C.heap[k]? = some o := fun k o hk a b => (hf.block k (heap_lt hk) (fun h => h.elim a b)).trans hk
  exact ⟨h.below.trans (hf.below (fun k hk => by rcases hk with rfl | rfl <;> assumption) h.below.size), Nat.le_trans h.size hf.size, fun k cs t fr hx a b c d => kb k _ (h.rest k cs t fr hx a b c d) a b, ⟨m, hs⟩, kb _ _ h.idx e1.symm e3.symm, kb _ _ h.res e2.symm e4.symm⟩
/-- a step of the index -/
theorem Sit.step (h : Sit w W1 X S g cap N b13 b8 at_) (k : Nat) (e1 : S ≠ b13) (e3 : g ≠ b13) (e5 : b8 ≠ b13) (hw : w.heap.size ≤ b13) : Sit w W1 (X.setCell ⟨b13, 0, none⟩ (.int .i64 (k : Nat))) S g cap N b13 b8 k := by
  have kb : ∀ (i : Nat) (o : Obj), X.heap[i]? = some o → i ≠ b13 → (X.setCell ⟨b13, 0, none⟩ (.int .i64 (k : Nat))).heap[i]? = some o := fun i o hk a => heap_else hk a _
  obtain ⟨m, hs⟩ := h.set
  obtain ⟨cur, h1, h2, h3⟩ := hs.ws
  refine ⟨below_set h.below hw _, by rw [World.size_setCell]; exact h.size, fun i cs t fr hx a b c d => kb i _ (h.rest i cs t fr hx a b c d) c, ⟨m, kb _ _ hs.hd e1, ⟨cur, kb _ _ h1 e3, h2, h3⟩, hs.cap, hs.off, hs.small⟩, ?_, kb _ _ h.res e5⟩
  rw [heap_set h.idx]
  rfl
end
/-- Add and Remove, whatever the number -/
theorem add_is (w : World) {S g cap n : Nat} {m : Nat → Bool} (h : SetAt w S g cap n m) (i : Int) (a : Addr) (hE : ErrAt w 0 a) :
    Calls Tryd.prog 16 #[.pointer (some ⟨S, 0, none⟩), .int .i64 i] w fun e w' => (∃ v, e = .returned v) ∧ (∃ m', SetAt w' S g cap n m') ∧ Foot w w' (fun k => k = S ∨ k = g) := by
  by_cases hi : i < 0 ∨ n ≤ i
  · exact (add_out w h i hi a hE).mono fun e w' ⟨he, q, hq⟩ => ⟨⟨_, he⟩, ⟨m, by rw [hq]; exact h.keep (below_drewN (Below.refl _ _) q)⟩, by rw [hq]; exact (Foot.refl w _).drewN q⟩
  · obtain ⟨j, rfl⟩ := Int.eq_ofNat_of_zero_le (show 0 ≤ i by omega)
    by_cases hm : m j = true
    · exact (add_old w h j (by omega) hm).mono fun e w' ⟨he, hw⟩ => ⟨⟨_, he⟩, by subst hw; exact ⟨m, h⟩, by subst hw; exact Foot.refl w _⟩
    · exact (add_new w h j (by omega) (by simpa using hm)).mono fun e w' ⟨he, hs, hf⟩ => ⟨⟨_, he⟩, ⟨_, hs⟩, hf⟩
theorem rem_is (w : World) {S g cap n : Nat} {m : Nat → Bool} (h : SetAt w S g cap n m) (i : Int) (a : Addr) (hE : ErrAt w 0 a) :
    Calls Tryd.prog 15 #[.pointer (some ⟨S, 0, none⟩), .int .i64 i] w fun e w' => (∃ v, e = .returned v) ∧ (∃ m', SetAt w' S g cap n m') ∧ Foot w w' (fun k => k = S ∨ k = g) := by
  by_cases hi : i < 0 ∨ n ≤ i
  · exact (rem_out w h i hi a hE).mono fun e w' ⟨he, q, hq⟩ => ⟨⟨_, he⟩, ⟨m, by rw [hq]; exact h.keep (below_drewN (Below.refl _ _) q)⟩, by rw [hq]; exact (Foot.refl w _).drewN q⟩
  · obtain ⟨j, rfl⟩ := Int.eq_ofNat_of_zero_le (show 0 ≤ i by omega)
    by_cases hm : m j = true
    · exact (rem_new w h j (by omega) hm).mono fun e w' ⟨he, hs, hf⟩ => ⟨⟨_, he⟩, ⟨_, hs⟩, hf⟩
    · exact (rem_old w h j (by omega) (by simpa using hm)).mono fun e w' ⟨he, hw⟩ => ⟨⟨_, he⟩, by subst hw; exact ⟨m, h⟩, by subst hw; exact Foot.refl w _⟩
end Go.Proofs.YtmkbbekeimnajaaDoor

/-! WCanon: the walk of DocsetCanon -/
namespace Go.Proofs.YtmkbbekeimnajaaDoor
open Go.RowKit Ds
def addI (n : Nat) (m : Nat → Bool) (z : Int) : Nat → Bool := fun k => m k || (decide (k < n) && decide ((k : Int) = z))
def remI (m : Nat → Bool) (z : Int) : Nat → Bool := fun k => m k && !decide ((k : Int) = z)
theorem addI_in {n : Nat} {m : Nat → Bool} {j : Nat} (hj : j < n) : addI n m (j : Int) = put m j true := by
  funext k
  unfold addI put
  by_cases e : k = j
  · subst e; rw [if_pos rfl, decide_eq_true hj]; simp
  · rw [if_neg e, decide_eq_false (show ¬ (k : Int) = (j : Int) by omega)]; simp
theorem addI_out {n : Nat} {m : Nat → Bool} {z : Int} (hz : z < 0 ∨ n ≤ z) : addI n m z = m := by
  funext k
  unfold addI
  by_cases h : k < n
  · rw [decide_eq_false (show ¬ (k : Int) = z by omega)]; simp
  · rw [decide_eq_false h]; simp
theorem remI_in {m : Nat → Bool} {j : Nat} : remI m (j : Int) = put m j false := by
  funext k
  unfold remI put
  by_cases e : k = j
  · subst e; rw [if_pos rfl]; simp
  · rw [if_neg e, decide_eq_false (show ¬ (k : Int) = (j : Int) by omega)]; simp
theorem remI_out {n : Nat} {m : Nat → Bool} {z : Int} (hm : ∀ i, n ≤ i → m i = false) (hz : z < 0 ∨ n ≤ z) : remI m z = m := by
  funext k
  unfold remI
  by_cases h : k < n
  · rw [decide_eq_false (show ¬ (k : Int) = z by omega)]; simp
  · rw [hm k (by omega)]; rfl
theorem add_z (w : World) {S g cap n : Nat} {m : Nat → Bool} (h : SetAt w S g cap n m) (z : Int) (a : Addr) (hE : ErrAt w 0 a) :
    Calls Tryd.prog 16 #[.pointer (some ⟨S, 0, none⟩), .int .i64 z] w fun e w' => (∃ v, e = .returned v) ∧ SetAt w' S g cap n (addI n m z) ∧ Foot w w' (fun k => k = S ∨ k = g) := by
  by_cases hz : z < 0 ∨ n ≤ z
  · rw [addI_out hz]
    exact (add_out w h z hz a hE).mono fun e w' ⟨he, q, hq⟩ => ⟨⟨_, he⟩, by rw [hq]; exact h.keep (below_drewN (Below.refl _ _) q), by rw [hq]; exact (Foot.refl w _).drewN q⟩
  · obtain ⟨j, rfl⟩ := Int.eq_ofNat_of_zero_le (show 0 ≤ z by omega)
    rw [addI_in (by omega)]
    by_cases hm : m j = true
    · rw [put_same hm]
      exact (add_old w h j (by omega) hm).mono fun e w' ⟨he, hw⟩ => by subst hw; exact ⟨⟨_, he⟩, h, Foot.refl w _⟩
    · exact (add_new w h j (by omega) (by simpa using hm)).mono fun e w' ⟨he, hs, hf⟩ => ⟨⟨_, he⟩, hs, hf⟩
theorem rem_z (w : World) {S g cap n : Nat} {m : Nat → Bool} (h : SetAt w S g cap n m) (z : Int) (a : Addr) (hE : ErrAt w 0 a) :
    Calls Tryd.prog 15 #[.pointer (some ⟨S, 0, none⟩), .int .i64 z] w fun e w' => (∃ v, e = .returned v) ∧ SetAt w' S g cap n (remI m z) ∧ Foot w w' (fun k => k = S ∨ k = g) := by
  by_cases hz : z < 0 ∨ n ≤ z
  · rw [remI_out h.off hz]
    exact (rem_out w h z hz a hE).mono fun e w' ⟨he, q, hq⟩ => ⟨⟨_, he⟩, by rw [hq]; exact h.keep (below_drewN (Below.refl _ _) q), by rw [hq]; exact (Foot.refl w _).drewN q⟩
  · obtain ⟨j, rfl⟩ := Int.eq_ofNat_of_zero_le (show 0 ≤ z by omega)
    rw [remI_in]
    by_cases hm : m j = true
    · exact (rem_new w h j (by omega) hm).mono fun e w' ⟨he, hs, hf⟩ => ⟨⟨_, he⟩, hs, hf⟩
    · rw [put_same (by simpa using hm)]
      exact (rem_old w h j (by omega) (by simpa using hm)).mono fun e w' ⟨he, hw⟩ => by subst hw; exact ⟨⟨_, he⟩, h, Foot.refl w _⟩
/-- the set over the three loops -/
def c1F (n : Nat) (gs : List Int) (i : Nat) : Nat → Bool := fun k => decide (k < n) && decide ((k : Int) ∈ gs.take i)
def c2F (n : Nat) (gs zs : List Int) (j : Nat) : Nat → Bool := fun k => (decide (k < n) && decide ((k : Int) ∈ gs)) || decide ((k : Int) ∈ zs.drop j)
def c3F (n : Nat) (gs zs : List Int) (i : Nat) : Nat → Bool := fun k => ((decide (k < n) && decide ((k : Int) ∈ gs)) || decide ((k : Int) ∈ zs)) && !(decide ((k : Int) ∈ gs.take i) && !decide ((k : Int) ∈ zs))
theorem c1_zero (n : Nat) (gs : List Int) : c1F n gs 0 = fun _ => false := by funext k; simp [c1F]
theorem take_snoc {gs : List Int} {i : Nat} {z : Int} (h : gs[i]? = some z) : gs.take (i + 1) = gs.take i ++ [z] := by rw [List.take_add_one, h]; rfl
theorem c1_step {n : Nat} {gs : List Int} {i : Nat} {z : Int} (h : gs[i]? = some z) : addI n (c1F n gs i) z = c1F n gs (i + 1) := by
  funext k
  unfold addI c1F
  rw [take_snoc h]
  simp only [List.mem_append, List.mem_singleton]
  by_cases a : k < n <;> by_cases b : (k : Int) ∈ gs.take i <;> by_cases c : (k : Int) = z <;> simp [a, b, c]
theorem c1_all (n : Nat) (gs zs : List Int) : c1F n gs gs.length = c2F n gs zs zs.length := by
  funext k
  unfold c1F c2F
  rw [List.take_length, List.drop_length]
  simp
theorem c2_step {n : Nat} {gs zs : List Int} {j : Nat} {z : Int} (h : zs[j]? = some z) (hz : 0 ≤ z ∧ z < n) : addI n (c2F n gs zs (j + 1)) z = c2F n gs zs j := by
  funext k
  unfold addI c2F
  have hd : zs.drop j = z :: zs.drop (j + 1) := by
    obtain ⟨hj, he⟩ := List.getElem?_eq_some_iff.1 h
    rw [List.drop_eq_getElem_cons hj, he]
  rw [hd]
  simp only [List.mem_cons]
  by_cases c : (k : Int) = z
  · have a : k < n := by omega
    simp [a, c]
  · simp [c]
theorem c2_all (n : Nat) (gs zs : List Int) : c2F n gs zs 0 = c3F n gs zs 0 := by
  funext k
  unfold c2F c3F
  simp
theorem c3_keep {n : Nat} {gs zs : List Int} {i : Nat} {z : Int} (h : gs[i]? = some z) (hz : z ∈ zs) : c3F n gs zs (i + 1) = c3F n gs zs i := by
  funext k
  unfold c3F
  rw [take_snoc h]
  simp only [List.mem_append, List.mem_singleton]
  by_cases c : (k : Int) = z
  · simp [c, hz]
  · simp [c]
theorem c3_step {n : Nat} {gs zs : List Int} {i : Nat} {z : Int} (h : gs[i]? = some z) (hz : z ∉ zs) : remI (c3F n gs zs i) z = c3F n gs zs (i + 1) := by
  funext k
  unfold remI c3F
  rw [take_snoc h]
  simp only [List.mem_append, List.mem_singleton]
  by_cases c : (k : Int) = z
  · simp [c, hz]
  · simp [c]
theorem c3_all (n : Nat) (gs zs : List Int) : c3F n gs zs gs.length = mOf zs := by
  funext k
  unfold c3F mOf
  rw [List.take_length]
  by_cases a : (k : Int) ∈ zs <;> by_cases b : (k : Int) ∈ gs <;> simp [a, b]
theorem uv_len3 {n : Nat} (h : n < 2097152) : (Uv.uv n).length ≤ 3 := by
  unfold Uv.uv
  by_cases h1 : n < 128
  · rw [Uv.uvf_small _ _ h1]; simp
  · rw [Uv.uvf_great _ _ (by omega)]
    by_cases h2 : n / 128 < 128
    · rw [Uv.uvf_small _ _ h2]; simp
    · rw [Uv.uvf_great _ _ (by omega), Uv.uvf_small _ _ (by omega)]; simp
theorem encS_short {n : Nat} {m : Nat → Bool} (hn : n ≤ 1048576) : (encS n m).length ≤ 3 + (n + 255) / 256 * 33 := by
  have h1 := uv_len3 (n := n) (by omega)
  have h2 := (body_len n m (nb n)).2
  unfold encS
  rw [List.length_append]
  unfold nb at *
  omega
theorem encS_is {n k : Nat} {m f : Nat → Bool} (hn : n ≤ 1048576) (hk : k ≤ 1048576) (h : encS n m = encS k f) (o1 : ∀ i, n ≤ i → m i = false) (o2 : ∀ i, k ≤ i → f i = false) : n = k ∧ m = f := by
  obtain ⟨rfl, _⟩ := uv_inj hn hk h
  refine ⟨rfl, ?_⟩
  funext i
  by_cases hi : i < n
  · exact encS_inj h i hi
  · rw [o1 i (by omega), o2 i (by omega)]
structure Two (w wr : World) (S g cap S2 g2 n : Nat) (m f : Nat → Bool) : Prop where
  s : SetAt wr S g cap n m
  t : SetAt wr S2 g2 (nw n) n f
  below : Below w.heap.size w wr
theorem Two.step {w wr w' : World} {S g cap S2 g2 n : Nat} {m f f' : Nat → Bool} (h : Two w wr S g cap S2 g2 n m f) (hs : SetAt w' S2 g2 (nw n) n f') (hf : Foot wr w' (fun k => k = S2 ∨ k = g2)) (a : S ≠ S2) (b : S ≠ g2) (c : g ≠ S2) (d : g ≠ g2) (h1 : w.heap.size ≤ S2) (h2 : w.heap.size ≤ g2) : Two w w' S g cap S2 g2 n m f' :=
  ⟨h.s.apart hf a b c d, hs, h.below.trans (hf.below (fun k hk => by rcases hk with rfl | rfl <;> assumption) h.below.size)⟩
set_option maxRecDepth 100000 in
set_option maxHeartbeats 8000000 in
theorem canon_walk (w : World) (T : DeBr w) (E : Nat → Addr) (hE : Errs w E allErrs) (hg : 25 ≤ w.heap.size) (n : Int) (ao1 : Option Addr) (k1 : Nat) (zs : List Int) (h1 : Ints w (.slice ao1 zs.length k1) zs) (hl1 : zs.length ≤ 1152921504606846976)
    (ao2 : Option Addr) (k2 : Nat) (gs : List Int) (h2 : Ints w (.slice ao2 gs.length k2) gs) (hl2 : gs.length ≤ 1152921504606846976) :
    Calls Tryd.prog 8 #[.int .i64 n, .slice ao1 zs.length k1, .slice ao2 gs.length k2] w fun e w' => e = .returned (.bool true) ∧ Below w.heap.size w w' := by
  have HT := hide T
  have HE := hide hE
  have H1 := hide h1
  have H2 := hide h2
  clear T hE h1 h2
  go_enter Tryd.func8, Tryd.ntmps8
  go_wp2_with fail
  refine (fixed_any w E HE.out HT.out hg).mono ?_
  rintro e w1 ⟨rfl, hb1⟩
  have HB1 := hide hb1
  have z1 := hb1.size
  have HZ1 := hide (ints_keep H1.out hb1)
  clear hb1
  go_wp2_with fail
  refine (of_any w1 n ao1 k1 zs HZ1.out hl1 (E 0) (err_below (HE.out.cell 0 (by decide)) HB1.out (by omega)) (by omega)).mono ?_
  rintro e w2 ⟨hof, hb2⟩
  have HB2 := hide (HB1.out.trans (hb2.mono z1))
  have z2 := HB2.out.size
  clear hb2 HZ1
  rcases hof with ⟨N, S, g, cap, rfl, hN, hin, rfl, hS, hgg, hs⟩ | ⟨hno, rfl⟩
  · have HS := hide hs
    have HIN := hide hin
    have hSl := heap_lt hs.hd
    have hgl : g < w2.heap.size := by obtain ⟨cur, h, _⟩ := hs.ws; exact heap_lt h
    clear hs hin
    go_wp2_with fail
    refine (new_ok w2 N hN).mono ?_
    rintro e w3 ⟨S2, g2, rfl, hS2, hg2, ht, hb3⟩
    have HTW := hide (show Two w w3 S g cap S2 g2 N (mOf zs) (c1F N gs 0) from ⟨HS.out.keep hb3, by rw [c1_zero]; exact ht, HB2.out.trans (hb3.mono z2)⟩)
    have q1 : S ≠ S2 := by omega
    have q2 : S ≠ g2 := by omega
    have q3 : g ≠ S2 := by omega
    have q4 : g ≠ g2 := by omega
    have q5 : w.heap.size ≤ S2 := by omega
    have q6 : w.heap.size ≤ g2 := by omega
    clear ht hb3 HS HB2 HB1
    go_wp2_with fail
    go_loopw [45] (fun j wr => ∃ i : Nat, j = .int .i64 (i : Nat) ∧ i ≤ gs.length ∧ Two w wr S g cap S2 g2 N (mOf zs) (c1F N gs i)) (fun j _ => gs.length - (intOf j).toNat)
    case atStart => exact ⟨0, rfl, Nat.zero_le _, HTW.out⟩
    case round =>
      obtain ⟨i, rfl, hi, htw⟩ := hrel
      have HTr := hide htw
      clear htw HTW
      by_cases hlt : i < gs.length
      · obtain ⟨z, hz⟩ : ∃ z, gs[i]? = some z := ⟨_, List.getElem?_eq_getElem hlt⟩
        obtain ⟨ad, rfl, hcz⟩ := ints_get (ints_keep H2.out HTr.out.below) hz
        have hii : (i : Int) < (gs.length : Int) := by omega
        have HAD := hide (add_z wr HTr.out.t z (E 0) (err_below (HE.out.cell 0 (by decide)) HTr.out.below (by omega)))
        rw [c1_step hz] at HAD
        clear hz
        go_wp2_with fail
        refine HAD.out.mono ?_
        rintro e w4 ⟨⟨v4, rfl⟩, hs4, hf4⟩
        have HT4 := hide (HTr.out.step hs4 hf4 q1 q2 q3 q4 q5 q6)
        clear hs4 hf4
        go_wp2_with fail
        exact ⟨⟨i + 1, vi (by omega), by omega, HT4.out⟩, by simp only [intOf]; omega⟩
      · obtain rfl : i = gs.length := by omega
        have HT2 := hide (show Two w wr S g cap S2 g2 N (mOf zs) (c2F N gs zs zs.length) from by rw [← c1_all]; exact HTr.out)
        have hwl : IntKind.i64.wrap ((zs.length : Int) - 1) = (zs.length : Int) - 1 := by rw [IntKind.wrap_i64]; omega
        clear HTr
        go_wp2_with fail
        go_loopw [12] (fun k wr => ∃ j : Nat, k = .int .i64 ((j : Int) - 1) ∧ j ≤ zs.length ∧ Two w wr S g cap S2 g2 N (mOf zs) (c2F N gs zs j)) (fun k _ => (intOf k + 1).toNat)
        case atStart => exact ⟨zs.length, rfl, Nat.le_refl _, HT2.out⟩
        case round =>
          clear HT2
          obtain ⟨j, rfl, hj, htw⟩ := hrel
          have HTr := hide htw
          clear htw
          by_cases hj0 : 0 < j
          · obtain ⟨k, hk⟩ : ∃ k, j - 1 = k := ⟨_, rfl⟩
            have hkj : (j : Int) - 1 = (k : Int) := by omega
            rw [hkj]
            have hklt : k < zs.length := by omega
            have hki : (k : Int) < (zs.length : Int) := by omega
            have hjk : j = k + 1 := by omega
            rw [hjk] at HTr
            obtain ⟨z, hz⟩ : ∃ z, zs[k]? = some z := ⟨_, List.getElem?_eq_getElem hklt⟩
            obtain ⟨ad, rfl, hcz⟩ := ints_get (ints_keep H1.out HTr.out.below) hz
            have HAD := hide (add_z wr HTr.out.t z (E 0) (err_below (HE.out.cell 0 (by decide)) HTr.out.below (by omega)))
            rw [c2_step hz (HIN.out z (List.mem_of_getElem? hz))] at HAD
            have hwk : IntKind.i64.wrap ((k : Int) - 1) = (k : Int) - 1 := by rw [IntKind.wrap_i64]; omega
            clear hz hk hkj hjk
            go_wp2_with fail
            refine HAD.out.mono ?_
            rintro e w4 ⟨⟨v4, rfl⟩, hs4, hf4⟩
            have HT4 := hide (HTr.out.step hs4 hf4 q1 q2 q3 q4 q5 q6)
            clear hs4 hf4
            go_wp2_with fail
            exact ⟨⟨k, rfl, by omega, HT4.out⟩, by simp only [intOf]; omega⟩
          · obtain rfl : j = 0 := by omega
            rw [show (((0 : Nat) : Int) - 1) = -1 from rfl]
            have HT3 := hide (show Two w wr S g cap S2 g2 N (mOf zs) (c3F N gs zs 0) from by rw [← c2_all]; exact HTr.out)
            clear HTr
            go_wp2_with fail
            go_loopw [68] (fun k wr => ∃ i : Nat, k = .int .i64 (i : Nat) ∧ i ≤ gs.length ∧ Two w wr S g cap S2 g2 N (mOf zs) (c3F N gs zs i)) (fun k _ => gs.length - (intOf k).toNat)
            case atStart => exact ⟨0, rfl, Nat.zero_le _, HT3.out⟩
            case round =>
              clear HT3
              obtain ⟨i, rfl, hi, htw⟩ := hrel
              have HTr := hide htw
              clear htw
              by_cases hlt : i < gs.length
              · obtain ⟨z, hz⟩ : ∃ z, gs[i]? = some z := ⟨_, List.getElem?_eq_getElem hlt⟩
                obtain ⟨ad, rfl, hcz⟩ := ints_get (ints_keep H2.out HTr.out.below) hz
                have hii : (i : Int) < (gs.length : Int) := by omega
                have HCO := hide (contains_any wr ao1 zs.length k1 zs z (ints_keep H1.out HTr.out.below) rfl hl1)
                by_cases hzz : z ∈ zs
                · rw [decide_eq_true hzz] at HCO
                  have HT4 := hide (show Two w wr S g cap S2 g2 N (mOf zs) (c3F N gs zs (i + 1)) from by rw [c3_keep hz hzz]; exact HTr.out)
                  clear hz hzz
                  go_wp2_with fail
                  refine HCO.out.mono ?_
                  rintro e wz ⟨rfl, rfl⟩
                  go_wp2_with fail
                  exact ⟨⟨i + 1, vi (by omega), by omega, HT4.out⟩, by simp only [intOf]; omega⟩
                · rw [decide_eq_false hzz] at HCO
                  have HAD := hide (rem_z wr HTr.out.t z (E 0) (err_below (HE.out.cell 0 (by decide)) HTr.out.below (by omega)))
                  rw [c3_step hz hzz] at HAD
                  clear hz hzz
                  go_wp2_with fail
                  refine HCO.out.mono ?_
                  rintro e wz ⟨rfl, rfl⟩
                  go_wp2_with fail
                  refine HAD.out.mono ?_
                  rintro e w4 ⟨⟨v4, rfl⟩, hs4, hf4⟩
                  have HT4 := hide (HTr.out.step hs4 hf4 q1 q2 q3 q4 q5 q6)
                  clear hs4 hf4
                  go_wp2_with fail
                  exact ⟨⟨i + 1, vi (by omega), by omega, HT4.out⟩, by simp only [intOf]; omega⟩
              · obtain rfl : i = gs.length := by omega
                have HTF := hide (show Two w wr S g cap S2 g2 N (mOf zs) (mOf zs) from by have := HTr.out; rwa [c3_all] at this)
                have zr := HTF.out.below.size
                obtain ⟨m, hm⟩ : ∃ m, mOf zs = m := ⟨_, rfl⟩
                rw [hm] at HTF
                clear HTr hm
                go_wp2_with fail
                refine (alike_same wr HTF.out.s HTF.out.t).mono ?_
                rintro e w5 ⟨rfl, hb5⟩
                have HT5 := hide (show Two w w5 S g cap S2 g2 N m m from ⟨HTF.out.s.keep hb5, HTF.out.t.keep hb5, HTF.out.below.trans (hb5.mono zr)⟩)
                have z5 := HT5.out.below.size
                clear hb5 HTF
                go_wp2_with fail
                refine (encode_set w5 HT5.out.t).mono ?_
                rintro e w6 ⟨q7, _, rfl, hh6, hb6⟩
                have HT6 := hide (show Two w w6 S g cap S2 g2 N m m from ⟨HT5.out.s.keep hb6, HT5.out.t.keep hb6, HT5.out.below.trans (hb6.mono z5)⟩)
                have HQ6 := hide (src_encS hN hh6)
                have z6 := HT6.out.below.size
                have hel := encS_len (m := m) hN
                have HE6 := hide (HE.out.below HT6.out.below (Nat.le_refl _) (ids_lt hg))
                clear hh6 hb6 HT5
                have HDC := hide (decode_any w6 _ _ HQ6.out (by omega) E HE6.out (by omega))
                go_wp2_with fail
                refine HDC.out.mono ?_
                rintro e w7 ⟨hd, hb7⟩
                have HT7 := hide (show Two w w7 S g cap S2 g2 N m m from ⟨HT6.out.s.keep hb7, HT6.out.t.keep hb7, HT6.out.below.trans (hb7.mono z6)⟩)
                have z7 := HT7.out.below.size
                clear hb7
                unfold DecOut at hd
                rcases hd with ⟨n', m', S3, g3, hn', he, rfl, hS3, hg3, hs3⟩ | ⟨hno, rfl⟩
                · obtain ⟨rfl, rfl⟩ := encS_is hN hn' he HT6.out.s.off hs3.off
                  have HU := hide hs3
                  clear hs3 he HT6 HQ6 HDC
                  go_wp2_with fail
                  refine (alike_same w7 HU.out HT7.out.s).mono ?_
                  rintro e w8 ⟨rfl, hb8⟩
                  have HT8 := hide (show Two w w8 S g cap S2 g2 N m m from ⟨HT7.out.s.keep hb8, HT7.out.t.keep hb8, HT7.out.below.trans (hb8.mono z7)⟩)
                  have z8 := HT8.out.below.size
                  clear hb8 HT7
                  go_wp2_with fail
                  refine (encode_set w8 HT8.out.s).mono ?_
                  rintro e w9 ⟨q8, _, rfl, hh9, hb9⟩
                  have HB9 := hide (HT8.out.below.trans (hb9.mono z8))
                  have hsh := encS_short (m := m) hN
                  have hshi : ((encS N m).length : Int) ≤ 3 + ((N : Int) + 255) / 256 * 33 := by omega
                  obtain ⟨el, hel2⟩ : ∃ el, (encS N m).length = el := ⟨_, rfl⟩
                  rw [hel2] at hshi hel hsh ⊢
                  clear hh9 hb9 hel2
                  go_wp2_with fail
                  go_ret
                  exact ⟨rfl, HB9.out⟩
                · exact (hno N m hN rfl).elim
  · clear hno
    go_wp2_with fail
    go_ret
    exact ⟨rfl, HB2.out⟩
end Go.Proofs.YtmkbbekeimnajaaDoor

/-! Fr: what the laws of the seat share: closed facts, the errors and the table off a row, the post -/
namespace Go.Proofs.YtmkbbekeimnajaaDoor
open Go Go.ChangeShapes Go.WideShapes Go.ChangeAt Go.RowKit Ds
theorem facts_of {P : Program} {f : FuncId} {fn : Func} {s : ChangeSpec} {c : OpenClaim}
    (k0 : (c.wf (OpenSpec.ofChange s)) = true)
    (k1 : (laidOutB P) = true)
    (k2 : (mapsRowed P) = true)
    (k3 : (fn.params.all (P.readableRec ·)) = true)
    (k4 : (namedTie P c.named s.vars) = true)
    (k5 : ((c.stops == [])) = true)
    (k6 : ((P.stops == [])) = true)
    (k7 : ((c.knobs == [])) = true)
    (k8 : ((P.stopKnobs == [])) = true)
    (k9 : ((c.inPlace == P.inPlace f)) = true)
    (k10 : ((c.unfollowed == P.unfollowed f)) = true)
    (k11 : ((c.recurses == P.recurses f)) = true)
    (k12 : ((c.named == P.varsNamed f)) = true)
    (k13 : ((c.maps == (fn.params.toList ++ s.plain.varTypes P).any (P.mapsRec ·))) = true)
    (k14 : ((c.ifaces == (fn.params.toList ++ s.plain.varTypes P).any (P.ifacesRec ·))) = true)
    (k15 : ((c.mapsOut == P.mapsAmong fn.resultTypes.toList)) = true)
    (k16 : ((c.loops == (fn.params.toList ++ s.plain.varTypes P).any (P.loopsFrom ·))) = true)
    (k17 : ((c.wideKeys == (fn.params.toList ++ s.plain.varTypes P ++ fn.resultTypes.toList).any (P.wideKeysFrom ·))) = true)
    (k18 : (s.vars.all (P.varReadable ·)) = true)
    (k19 : (fn.resultTypes.all (fun t => P.readableRec t && decide (t < P.types.size))) = true)
    (k20 : ((c.ifacesOut == fn.resultTypes.toList.any (P.ifacesRec ·))) = true)
    (k21 : ((c.loopsOut == fn.resultTypes.toList.any (P.loopsFrom ·))) = true)
    (k22 : ((c.plainKeys == P.plainKeys)) = true)
    (k23 : (c.shortTexts.isNone) = true)
    (k24 : (P.stopsHeard) = true)
    (k25 : (P.mayEnter) = true)
    (k26 : ((c.lifted == P.liftsFinal)) = true)
    (k27 : ((P.make == some c.make)) = true)
    (k28 : ((c.kinds == (if c.domain.isEmpty then [] else fn.params.toList.map fun t => match P.underlying t with | some (.int k) => some k | _ => none))) = true)
    (k29 : ((c.pinned == c.pinnedBy)) = true)
    (k30 : ((c.veiled == (fn.params.toList ++ s.plain.varTypes P ++ fn.resultTypes.toList).any (P.veiledRec ·))) = true)
    (k31 : (c.veiledFits P fn.params.toList (fn.params.toList ++ s.plain.varTypes P ++ fn.resultTypes.toList)) = true)
    : joinedFacts P f fn s c = true := by
  simp only [joinedFacts, Bool.and_eq_true]
  exact ⟨⟨⟨⟨⟨⟨⟨⟨⟨⟨⟨⟨⟨⟨⟨⟨⟨⟨⟨⟨⟨⟨⟨⟨⟨⟨⟨⟨⟨⟨⟨k0, k1⟩, k2⟩, k3⟩, k4⟩, k5⟩, k6⟩, k7⟩, k8⟩, k9⟩, k10⟩, k11⟩, k12⟩, k13⟩, k14⟩, k15⟩, k16⟩, k17⟩, k18⟩, k19⟩, k20⟩, k21⟩, k22⟩, k23⟩, k24⟩, k25⟩, k26⟩, k27⟩, k28⟩, k29⟩, k30⟩, k31⟩
theorem Tryd.laidOut : (laidOutB Tryd.prog) = true := by kernel_rfl
theorem Tryd.rowed : (mapsRowed Tryd.prog) = true := by kernel_rfl
theorem Tryd.noStops : ((Tryd.prog.stops == [])) = true := by kernel_rfl
theorem Tryd.noKnobs : ((Tryd.prog.stopKnobs == [])) = true := by kernel_rfl
theorem Tryd.heard : (Tryd.prog.stopsHeard) = true := by kernel_rfl
theorem Tryd.mayEnter : (Tryd.prog.mayEnter) = true := by kernel_rfl
theorem Tryd.keys : Tryd.prog.plainKeys = Rows.docsetItersRow.plainKeys := by kernel_rfl
theorem Tryd.lifts : Tryd.prog.liftsFinal = Rows.docsetItersRow.lifted := by kernel_rfl
theorem Tryd.makes : Tryd.prog.make = some Rows.docsetItersRow.make := by kernel_rfl
theorem own : ownKnob Tryd.prog.godebug = none := by kernel_rfl
theorem laidOut : laidOutB Tryd.prog = true := by kernel_rfl
theorem below_trodAll {H : Type} {enc : TypeId × Value → H} {P : Program} (hl : laidOutB P = true) {W W' : World} (hb : Below W.heap.size W W') (ts : List TypeId) : ∀ {vs : List Value} {ds : List (DataW H)} {ps : List MemPlace},
    ts.all (fun t => P.readableRec t && decide (t < P.types.size)) = true → DataW.TrodAll enc P W 0 (fun _ => true) true ts vs ds ps → (∀ x ∈ ps, x.block < W.heap.size) →
    DataW.TrodAll enc P W' 0 (fun b => decide (b < W.heap.size)) true ts vs ds ps := by
  induction ts with
  | nil =>
    intro vs ds ps _ h _
    obtain ⟨rfl, rfl, rfl⟩ := trodAll_nil h
    exact trodAll_mk0
  | cons t ts ih =>
    intro vs ds ps ht h hlt
    obtain ⟨v, vs', d, ds', p, q, rfl, rfl, rfl, h1, h2⟩ := trodAll_cons h
    simp only [List.all_cons, Bool.and_eq_true, decide_eq_true_eq] at ht
    exact trodAll_cons_mk (Below.trod hl ht.1.1 ht.1.2 h1 hb (fun x hx => hlt x (by simp [hx]))) (ih ht.2 h2 (fun x hx => hlt x (by simp [hx])))

/-- THE POST of every law: it answered true, and nothing that was there has turned -/
theorem law_post {H : Type} {enc : TypeId × Value → H} {s : ChangeSpec} {fn : Func} {W W' : World} {args : Array Value} {ds : List (DataW H)} {before : List MemPlace}
    (hW : DataW.Whole enc Tryd.prog fn.params.toList s.vars false W args.toList ds [] before) (hv : s.vars = []) (hfn : s.fn H (ds ++ []) = { results := [.lit (.bool true)], args := ds }) (hr : fn.resultTypes = #[4])
    (hts : fn.params.toList.all (fun t => Tryd.prog.readableRec t && decide (t < Tryd.prog.types.size)) = true) (hb : Below W.heap.size W W') :
    s.post enc Tryd.prog fn false true false false W args (.bool true) W' := by
  have hW' := hW
  obtain ⟨p, q, hA0, hV, rfl, hfz, hnd⟩ := hW
  have hA : DataW.TrodAll enc Tryd.prog W 0 (fun _ => true) true fn.params.toList args.toList ds p := hA0
  rw [hv] at hV
  obtain ⟨_, rfl⟩ := trodVars_none hV
  refine ⟨ds, [], _, [], p, [], hW', ?_, ?_, ?_, hb.frame _, fun h => by cases h⟩
  · rw [hfn, hr]
    exact trodAll_cons_mk (shut_bool Tryd.underlying4 true) trodAll_mk0
  · rw [hfn]
    exact below_trodAll laidOut hb _ hts hA (fun x hx => by simpa using hW'.lt x (by simp [hx]))
  · rw [hv, hfn]
    rfl
theorem star : "*" ++ "errors.errorString" = "*errors.errorString" := by decide
theorem row153 (u : TypeId) (h : Tryd.prog.typeName? 3 u = some "*errors.errorString") : u = 153 :=
  typeName_ptr_named (nm := "errors.errorString") (by rw [star]; kernel_rfl) (by kernel_rfl) (by decide) u (by rw [star]; exact h)
theorem c170 : Tryd.prog.cellsOf 170 = 1 := by kernel_rfl
theorem c9 : Tryd.prog.cellsOf 9 = 1 := by kernel_rfl

/-- a listed variable is read, wherever it stands on the list -/
theorem laid_mem {P : Program} {W : World} {l : List (String × DataW Unit)} (h : laidMet P l W) {n : String} {d : DataW Unit} (hm : (n, d) ∈ l) : ∃ r, laidMet P ((n, d) :: r) W := by
  induction l with
  | nil => cases hm
  | cons x r ih =>
    rcases List.mem_cons.1 hm with rfl | hm
    · exact ⟨r, h⟩
    · exact ih h.tail hm

/-- what a listed error reads as -/
theorem laid_err_any {P : Program} {n nm : String} {text : List UInt8} {r : List (String × DataW Unit)} {W : World} {g : Nat} {ti tp te ts : TypeId} {ms : Array (String × TypeId)} {f : Field}
    (h : laidMet P ((n, .iface nm (.ptr (.agg [.lit (.string text)]))) :: r) W)
    (hg : P.globalNamed n = some g) (ht : (P.globals[g]?).map (·.type) = some ti) (hi : P.underlying ti = some (.interface ms)) (hrow : ∀ u, P.typeName? 3 u = some nm → u = tp)
    (hp : P.underlying tp = some (.pointer te)) (he : P.underlying te = some (.struct #[f])) (hft : f.type = ts) (hfo : f.offset = 0) (hs : P.underlying ts = some .string) (hc : P.cellsOf te = 1) (hcs : P.cellsOf ts = 1) :
    ∃ (a : Addr) (s : ByteArray), W.cell? ⟨g, 0, none⟩ = some (.iface tp (.pointer (some a))) ∧ W.cell? a = some (.string s) ∧ s.data.toList = text ∧ ∃ c t, W.heap[a.block]? = some (.cells c t (0, 0)) := by
  obtain ⟨ps, ⟨g0, t0, cs0, f0, p0, q0, hg0, ht0, hv0, hd0, _, e0⟩, _, hrows⟩ := h
  obtain rfl := Option.some.inj (hg.symm.trans hg0)
  obtain rfl := Option.some.inj (ht.symm.trans ht0)
  subst e0
  obtain ⟨l0⟩ := cs0
  have ok0 : ∀ u v, l0 = [.iface u v] → Value.okWide P W .any 0 u v := fun u v e => by
    subst e
    exact (hrows g 0 (by simp [MemPlace.row])).2 u v (by simpa using World.var?_cell hg0 hv0 0)
  obtain ⟨a0, s0, rfl, hc0, hs0, _, hpp⟩ := errorString_of_trod hi hrow hp he hft hfo hs hc hcs hd0 ok0
  refine ⟨a0, s0, by simpa using World.var?_cell hg0 hv0 0, hc0, hs0, ?_⟩
  subst hpp
  exact (hrows a0.block a0.off (by simp [MemPlace.row])).1
theorem laid_err {W : World} {n : String} {text : List UInt8} {r : List (String × DataW Unit)} {g : Nat} (h : laidMet Tryd.prog ((n, .iface "*errors.errorString" (.ptr (.agg [.lit (.string text)]))) :: r) W)
    (hg : Tryd.prog.globalNamed n = some g) (ht : (Tryd.prog.globals[g]?).map (·.type) = some 26) :
    ∃ (a : Addr) (s : ByteArray), ErrAt W g a ∧ W.cell? a = some (.string s) ∧ s.data.toList = text ∧ ∃ c t, W.heap[a.block]? = some (.cells c t (0, 0)) :=
  laid_err_any h hg ht Tryd.underlying26 row153 Tryd.underlying153 Tryd.underlying170 rfl rfl Tryd.underlying9 c170 c9
def errText : Nat → List UInt8
  | 0 => [99, 111, 110, 99, 111, 114, 100, 58, 32, 114, 97, 110, 103, 101]
  | 1 => [99, 111, 110, 99, 111, 114, 100, 58, 32, 99, 111, 114, 114, 117, 112, 116]
  | 2 => [99, 111, 110, 99, 111, 114, 100, 58, 32, 116, 111, 111, 32, 115, 104, 111, 114, 116]
  | 3 => [99, 111, 110, 99, 111, 114, 100, 58, 32, 118, 97, 114, 105, 110, 116]
  | 4 => [99, 111, 110, 99, 111, 114, 100, 58, 32, 108, 105, 109, 105, 116]
  | 5 => [99, 111, 110, 99, 111, 114, 100, 58, 32, 111, 114, 100, 101, 114]
  | 6 => [99, 111, 110, 99, 111, 114, 100, 58, 32, 116, 97, 105, 108]
  | 7 => [99, 111, 110, 99, 111, 114, 100, 58, 32, 116, 97, 103]
  | 8 => [99, 111, 110, 99, 111, 114, 100, 58, 32, 115, 117, 109]
  | 9 => [99, 111, 110, 99, 111, 114, 100, 58, 32, 115, 105, 122, 101]
  | 10 => [99, 111, 110, 99, 111, 114, 100, 58, 32, 115, 99, 104, 101, 109, 97]
  | 11 => [99, 111, 110, 99, 111, 114, 100, 58, 32, 102, 105, 101, 108, 100]
  | 12 => [99, 111, 110, 99, 111, 114, 100, 58, 32, 118, 97, 108, 117, 101]
  | 13 => [99, 111, 110, 99, 111, 114, 100, 58, 32, 112, 97, 116, 116, 101, 114, 110]
  | 14 => [99, 111, 110, 99, 111, 114, 100, 58, 32, 115, 116, 97, 116, 101, 115]
  | 16 => [99, 111, 110, 99, 111, 114, 100, 58, 32, 115, 121, 110, 116, 97, 120]
  | 17 => [99, 111, 110, 99, 111, 114, 100, 58, 32, 116, 111, 111, 32, 100, 101, 101, 112]
  | 18 => [99, 111, 110, 99, 111, 114, 100, 58, 32, 110, 111, 100, 101]
  | 19 => [99, 111, 110, 99, 111, 114, 100, 58, 32, 116, 111, 111, 32, 109, 97, 110, 121, 32, 116, 101, 114, 109, 115]
  | 20 => [99, 111, 110, 99, 111, 114, 100, 58, 32, 115, 99, 111, 114, 101, 32, 111, 118, 101, 114, 102, 108, 111, 119]
  | 21 => [99, 111, 110, 99, 111, 114, 100, 58, 32, 99, 111, 100, 101]
  | 22 => [99, 111, 110, 99, 111, 114, 100, 58, 32, 102, 117, 101, 108]
  | 23 => [99, 111, 110, 99, 111, 114, 100, 58, 32, 100, 111, 99, 117, 109, 101, 110, 116]
  | 24 => [99, 111, 110, 99, 111, 114, 100, 58, 32, 99, 111, 109, 109, 97, 110, 100]
  | _ => []
/-- one error's reading -/
def ErrRead (W : World) (g : Nat) : Prop := ∃ (a : Addr) (s : ByteArray), ErrAt W g a ∧ W.cell? a = some (.string s) ∧ s.data.toList = errText g ∧ ∃ c t, W.heap[a.block]? = some (.cells c t (0, 0))
theorem errs_of_reads {W : World} {ids : List Nat} (h : ∀ g ∈ ids, ErrRead W g) (hd : ∀ g ∈ ids, ∀ k ∈ ids, g ≠ k → errText g ≠ errText k) : ∃ E, Errs W E ids := by
  have hs : ∀ g : Nat, ∃ a : Addr, g ∈ ids → ∃ s : ByteArray, ErrAt W g a ∧ W.cell? a = some (.string s) ∧ s.data.toList = errText g ∧ ∃ c t, W.heap[a.block]? = some (.cells c t (0, 0)) := fun g => by
    by_cases hg : g ∈ ids
    · obtain ⟨a, s, h1⟩ := h g hg
      exact ⟨a, fun _ => ⟨s, h1⟩⟩
    · exact ⟨default, fun hh => absurd hh hg⟩
  obtain ⟨E, hE⟩ := Classical.axiomOfChoice hs
  refine ⟨E, fun g hg => ?_, fun g hg => ?_, fun g hg k hk hne e => ?_⟩
  · obtain ⟨s, h1, _⟩ := hE g hg
    exact h1
  · obtain ⟨s, _, _, _, h4⟩ := hE g hg
    exact h4
  · obtain ⟨s, _, h2, h3, _⟩ := hE g hg
    obtain ⟨s', _, h2', h3', _⟩ := hE k hk
    rw [e] at h2
    have e2 := Option.some.inj (h2.symm.trans h2')
    simp only [Value.string.injEq] at e2
    exact hd g hg k hk hne (h3.symm.trans ((congrArg (fun b : ByteArray => b.data.toList) e2).trans h3'))
theorem texts_apart : ∀ g ∈ allErrs, ∀ k ∈ allErrs, g ≠ k → errText g ≠ errText k := by decide +kernel
theorem gE0 : Tryd.prog.globalNamed "concord/api.ErrRange" = some 0 := by kernel_rfl
theorem tE0 : (Tryd.prog.globals[0]?).map (·.type) = some 26 := by kernel_rfl
theorem read0 {W : World} {l : List (String × DataW Unit)} (h : laidMet Tryd.prog l W) (hm : ("concord/api.ErrRange", Rows.laid_concord_api_ErrRange) ∈ l) : ErrRead W 0 := by
  obtain ⟨r, h1⟩ := laid_mem h hm
  exact laid_err (text := errText 0) h1 gE0 tE0
theorem gE1 : Tryd.prog.globalNamed "concord/api.ErrCorrupt" = some 1 := by kernel_rfl
theorem tE1 : (Tryd.prog.globals[1]?).map (·.type) = some 26 := by kernel_rfl
theorem read1 {W : World} {l : List (String × DataW Unit)} (h : laidMet Tryd.prog l W) (hm : ("concord/api.ErrCorrupt", Rows.laid_concord_api_ErrCorrupt) ∈ l) : ErrRead W 1 := by
  obtain ⟨r, h1⟩ := laid_mem h hm
  exact laid_err (text := errText 1) h1 gE1 tE1
theorem gE2 : Tryd.prog.globalNamed "concord/api.ErrShort" = some 2 := by kernel_rfl
theorem tE2 : (Tryd.prog.globals[2]?).map (·.type) = some 26 := by kernel_rfl
theorem read2 {W : World} {l : List (String × DataW Unit)} (h : laidMet Tryd.prog l W) (hm : ("concord/api.ErrShort", Rows.laid_concord_api_ErrShort) ∈ l) : ErrRead W 2 := by
  obtain ⟨r, h1⟩ := laid_mem h hm
  exact laid_err (text := errText 2) h1 gE2 tE2
theorem gE3 : Tryd.prog.globalNamed "concord/api.ErrVarint" = some 3 := by kernel_rfl
theorem tE3 : (Tryd.prog.globals[3]?).map (·.type) = some 26 := by kernel_rfl
theorem read3 {W : World} {l : List (String × DataW Unit)} (h : laidMet Tryd.prog l W) (hm : ("concord/api.ErrVarint", Rows.laid_concord_api_ErrVarint) ∈ l) : ErrRead W 3 := by
  obtain ⟨r, h1⟩ := laid_mem h hm
  exact laid_err (text := errText 3) h1 gE3 tE3
theorem gE4 : Tryd.prog.globalNamed "concord/api.ErrLimit" = some 4 := by kernel_rfl
theorem tE4 : (Tryd.prog.globals[4]?).map (·.type) = some 26 := by kernel_rfl
theorem read4 {W : World} {l : List (String × DataW Unit)} (h : laidMet Tryd.prog l W) (hm : ("concord/api.ErrLimit", Rows.laid_concord_api_ErrLimit) ∈ l) : ErrRead W 4 := by
  obtain ⟨r, h1⟩ := laid_mem h hm
  exact laid_err (text := errText 4) h1 gE4 tE4
theorem gE5 : Tryd.prog.globalNamed "concord/api.ErrOrder" = some 5 := by kernel_rfl
theorem tE5 : (Tryd.prog.globals[5]?).map (·.type) = some 26 := by kernel_rfl
theorem read5 {W : World} {l : List (String × DataW Unit)} (h : laidMet Tryd.prog l W) (hm : ("concord/api.ErrOrder", Rows.laid_concord_api_ErrOrder) ∈ l) : ErrRead W 5 := by
  obtain ⟨r, h1⟩ := laid_mem h hm
  exact laid_err (text := errText 5) h1 gE5 tE5
theorem gE6 : Tryd.prog.globalNamed "concord/api.ErrTail" = some 6 := by kernel_rfl
theorem tE6 : (Tryd.prog.globals[6]?).map (·.type) = some 26 := by kernel_rfl
theorem read6 {W : World} {l : List (String × DataW Unit)} (h : laidMet Tryd.prog l W) (hm : ("concord/api.ErrTail", Rows.laid_concord_api_ErrTail) ∈ l) : ErrRead W 6 := by
  obtain ⟨r, h1⟩ := laid_mem h hm
  exact laid_err (text := errText 6) h1 gE6 tE6
theorem gE7 : Tryd.prog.globalNamed "concord/api.ErrTag" = some 7 := by kernel_rfl
theorem tE7 : (Tryd.prog.globals[7]?).map (·.type) = some 26 := by kernel_rfl
theorem read7 {W : World} {l : List (String × DataW Unit)} (h : laidMet Tryd.prog l W) (hm : ("concord/api.ErrTag", Rows.laid_concord_api_ErrTag) ∈ l) : ErrRead W 7 := by
  obtain ⟨r, h1⟩ := laid_mem h hm
  exact laid_err (text := errText 7) h1 gE7 tE7
theorem gE8 : Tryd.prog.globalNamed "concord/api.ErrSum" = some 8 := by kernel_rfl
theorem tE8 : (Tryd.prog.globals[8]?).map (·.type) = some 26 := by kernel_rfl
theorem read8 {W : World} {l : List (String × DataW Unit)} (h : laidMet Tryd.prog l W) (hm : ("concord/api.ErrSum", Rows.laid_concord_api_ErrSum) ∈ l) : ErrRead W 8 := by
  obtain ⟨r, h1⟩ := laid_mem h hm
  exact laid_err (text := errText 8) h1 gE8 tE8
theorem gE9 : Tryd.prog.globalNamed "concord/api.ErrSize" = some 9 := by kernel_rfl
theorem tE9 : (Tryd.prog.globals[9]?).map (·.type) = some 26 := by kernel_rfl
theorem read9 {W : World} {l : List (String × DataW Unit)} (h : laidMet Tryd.prog l W) (hm : ("concord/api.ErrSize", Rows.laid_concord_api_ErrSize) ∈ l) : ErrRead W 9 := by
  obtain ⟨r, h1⟩ := laid_mem h hm
  exact laid_err (text := errText 9) h1 gE9 tE9
theorem gE10 : Tryd.prog.globalNamed "concord/api.ErrSchema" = some 10 := by kernel_rfl
theorem tE10 : (Tryd.prog.globals[10]?).map (·.type) = some 26 := by kernel_rfl
theorem read10 {W : World} {l : List (String × DataW Unit)} (h : laidMet Tryd.prog l W) (hm : ("concord/api.ErrSchema", Rows.laid_concord_api_ErrSchema) ∈ l) : ErrRead W 10 := by
  obtain ⟨r, h1⟩ := laid_mem h hm
  exact laid_err (text := errText 10) h1 gE10 tE10
theorem gE11 : Tryd.prog.globalNamed "concord/api.ErrField" = some 11 := by kernel_rfl
theorem tE11 : (Tryd.prog.globals[11]?).map (·.type) = some 26 := by kernel_rfl
theorem read11 {W : World} {l : List (String × DataW Unit)} (h : laidMet Tryd.prog l W) (hm : ("concord/api.ErrField", Rows.laid_concord_api_ErrField) ∈ l) : ErrRead W 11 := by
  obtain ⟨r, h1⟩ := laid_mem h hm
  exact laid_err (text := errText 11) h1 gE11 tE11
theorem gE12 : Tryd.prog.globalNamed "concord/api.ErrValue" = some 12 := by kernel_rfl
theorem tE12 : (Tryd.prog.globals[12]?).map (·.type) = some 26 := by kernel_rfl
theorem read12 {W : World} {l : List (String × DataW Unit)} (h : laidMet Tryd.prog l W) (hm : ("concord/api.ErrValue", Rows.laid_concord_api_ErrValue) ∈ l) : ErrRead W 12 := by
  obtain ⟨r, h1⟩ := laid_mem h hm
  exact laid_err (text := errText 12) h1 gE12 tE12
theorem gE13 : Tryd.prog.globalNamed "concord/api.ErrPattern" = some 13 := by kernel_rfl
theorem tE13 : (Tryd.prog.globals[13]?).map (·.type) = some 26 := by kernel_rfl
theorem read13 {W : World} {l : List (String × DataW Unit)} (h : laidMet Tryd.prog l W) (hm : ("concord/api.ErrPattern", Rows.laid_concord_api_ErrPattern) ∈ l) : ErrRead W 13 := by
  obtain ⟨r, h1⟩ := laid_mem h hm
  exact laid_err (text := errText 13) h1 gE13 tE13
theorem gE14 : Tryd.prog.globalNamed "concord/api.ErrStates" = some 14 := by kernel_rfl
theorem tE14 : (Tryd.prog.globals[14]?).map (·.type) = some 26 := by kernel_rfl
theorem read14 {W : World} {l : List (String × DataW Unit)} (h : laidMet Tryd.prog l W) (hm : ("concord/api.ErrStates", Rows.laid_concord_api_ErrStates) ∈ l) : ErrRead W 14 := by
  obtain ⟨r, h1⟩ := laid_mem h hm
  exact laid_err (text := errText 14) h1 gE14 tE14
theorem gE16 : Tryd.prog.globalNamed "concord/api.ErrSyntax" = some 16 := by kernel_rfl
theorem tE16 : (Tryd.prog.globals[16]?).map (·.type) = some 26 := by kernel_rfl
theorem read16 {W : World} {l : List (String × DataW Unit)} (h : laidMet Tryd.prog l W) (hm : ("concord/api.ErrSyntax", Rows.laid_concord_api_ErrSyntax) ∈ l) : ErrRead W 16 := by
  obtain ⟨r, h1⟩ := laid_mem h hm
  exact laid_err (text := errText 16) h1 gE16 tE16
theorem gE17 : Tryd.prog.globalNamed "concord/api.ErrDeep" = some 17 := by kernel_rfl
theorem tE17 : (Tryd.prog.globals[17]?).map (·.type) = some 26 := by kernel_rfl
theorem read17 {W : World} {l : List (String × DataW Unit)} (h : laidMet Tryd.prog l W) (hm : ("concord/api.ErrDeep", Rows.laid_concord_api_ErrDeep) ∈ l) : ErrRead W 17 := by
  obtain ⟨r, h1⟩ := laid_mem h hm
  exact laid_err (text := errText 17) h1 gE17 tE17
theorem gE18 : Tryd.prog.globalNamed "concord/api.ErrNode" = some 18 := by kernel_rfl
theorem tE18 : (Tryd.prog.globals[18]?).map (·.type) = some 26 := by kernel_rfl
theorem read18 {W : World} {l : List (String × DataW Unit)} (h : laidMet Tryd.prog l W) (hm : ("concord/api.ErrNode", Rows.laid_concord_api_ErrNode) ∈ l) : ErrRead W 18 := by
  obtain ⟨r, h1⟩ := laid_mem h hm
  exact laid_err (text := errText 18) h1 gE18 tE18
theorem gE19 : Tryd.prog.globalNamed "concord/api.ErrTerms" = some 19 := by kernel_rfl
theorem tE19 : (Tryd.prog.globals[19]?).map (·.type) = some 26 := by kernel_rfl
theorem read19 {W : World} {l : List (String × DataW Unit)} (h : laidMet Tryd.prog l W) (hm : ("concord/api.ErrTerms", Rows.laid_concord_api_ErrTerms) ∈ l) : ErrRead W 19 := by
  obtain ⟨r, h1⟩ := laid_mem h hm
  exact laid_err (text := errText 19) h1 gE19 tE19
theorem gE20 : Tryd.prog.globalNamed "concord/api.ErrScore" = some 20 := by kernel_rfl
theorem tE20 : (Tryd.prog.globals[20]?).map (·.type) = some 26 := by kernel_rfl
theorem read20 {W : World} {l : List (String × DataW Unit)} (h : laidMet Tryd.prog l W) (hm : ("concord/api.ErrScore", Rows.laid_concord_api_ErrScore) ∈ l) : ErrRead W 20 := by
  obtain ⟨r, h1⟩ := laid_mem h hm
  exact laid_err (text := errText 20) h1 gE20 tE20
theorem gE21 : Tryd.prog.globalNamed "concord/api.ErrCode" = some 21 := by kernel_rfl
theorem tE21 : (Tryd.prog.globals[21]?).map (·.type) = some 26 := by kernel_rfl
theorem read21 {W : World} {l : List (String × DataW Unit)} (h : laidMet Tryd.prog l W) (hm : ("concord/api.ErrCode", Rows.laid_concord_api_ErrCode) ∈ l) : ErrRead W 21 := by
  obtain ⟨r, h1⟩ := laid_mem h hm
  exact laid_err (text := errText 21) h1 gE21 tE21
theorem gE22 : Tryd.prog.globalNamed "concord/api.ErrFuel" = some 22 := by kernel_rfl
theorem tE22 : (Tryd.prog.globals[22]?).map (·.type) = some 26 := by kernel_rfl
theorem read22 {W : World} {l : List (String × DataW Unit)} (h : laidMet Tryd.prog l W) (hm : ("concord/api.ErrFuel", Rows.laid_concord_api_ErrFuel) ∈ l) : ErrRead W 22 := by
  obtain ⟨r, h1⟩ := laid_mem h hm
  exact laid_err (text := errText 22) h1 gE22 tE22
theorem gE23 : Tryd.prog.globalNamed "concord/api.ErrDoc" = some 23 := by kernel_rfl
theorem tE23 : (Tryd.prog.globals[23]?).map (·.type) = some 26 := by kernel_rfl
theorem read23 {W : World} {l : List (String × DataW Unit)} (h : laidMet Tryd.prog l W) (hm : ("concord/api.ErrDoc", Rows.laid_concord_api_ErrDoc) ∈ l) : ErrRead W 23 := by
  obtain ⟨r, h1⟩ := laid_mem h hm
  exact laid_err (text := errText 23) h1 gE23 tE23
theorem gE24 : Tryd.prog.globalNamed "concord/api.ErrCommand" = some 24 := by kernel_rfl
theorem tE24 : (Tryd.prog.globals[24]?).map (·.type) = some 26 := by kernel_rfl
theorem read24 {W : World} {l : List (String × DataW Unit)} (h : laidMet Tryd.prog l W) (hm : ("concord/api.ErrCommand", Rows.laid_concord_api_ErrCommand) ∈ l) : ErrRead W 24 := by
  obtain ⟨r, h1⟩ := laid_mem h hm
  exact laid_err (text := errText 24) h1 gE24 tE24
end Go.Proofs.YtmkbbekeimnajaaDoor

/-! Tbl: the table off the row -/
namespace Go.Proofs.YtmkbbekeimnajaaDoor
open Go Go.RowKit Ds
theorem gTab : Tryd.prog.globalNamed "math/bits.deBruijn64tab" = some 15 := by kernel_rfl
theorem tTab : (Tryd.prog.globals[15]?).map (·.type) = some 123 := by kernel_rfl
theorem debr_of_mem {W : World} {l : List (String × DataW Unit)} (h : laidMet Tryd.prog l W) (hm : ("math/bits.deBruijn64tab", Rows.laid_math_bits_deBruijn64tab) ∈ l) : DeBr W := by
  obtain ⟨r, h1⟩ := laid_mem h hm
  have ht : Go.Lib.TabIs Tryd.prog W "math/bits.deBruijn64tab" .u8 (Go.Lib.deBruijn64tab.map fun (n : Nat) => (n : Int)) := Go.Lib.tabIs_of_head gTab tTab Tryd.underlying123 Tryd.underlying5 (by kernel_rfl) (by kernel_rfl) h1
  intro j hj
  have := ht.cell gTab j (by simpa [Go.Lib.deBruijn64tab] using hj)
  rw [this]
  simp [List.getD, List.getElem?_map]
  cases hx : Go.Lib.deBruijn64tab[j]? <;> rfl
end Go.Proofs.YtmkbbekeimnajaaDoor

/-! Opn: arguments opened: numbers, bytes -/
namespace Go.Proofs.YtmkbbekeimnajaaDoor
open Go Go.ChangeShapes Go.WideShapes Go.ChangeAt Go.RowKit
theorem co3 : Tryd.prog.cellsOf 3 = 1 := by kernel_rfl
theorem co5 : Tryd.prog.cellsOf 5 = 1 := by kernel_rfl
theorem by3 : Tryd.prog.bytesOf 3 = 8 := by kernel_rfl
theorem by5 : Tryd.prog.bytesOf 5 = 1 := by kernel_rfl
/-- what was read has this length -/
def Len {H : Type} (d : DataW H) (n : Nat) : Prop := (d = .nil ∧ n = 0) ∨ ∃ elems sp, d = .slice elems sp ∧ elems.length = n
section
variable {H : Type} {enc : TypeId × Value → H} {P : Program} {W : World} {base : Nat} {spare : Nat → Bool} {held : Bool} {n : Nat} {v : Value} {d : DataW H} {p : List MemPlace}
theorem ints_of_trod {T E : TypeId} (hT : P.underlying T = some (.slice E)) (hE : P.underlying E = some (.int .i64)) (hC : P.cellsOf E = 1) (h : DataW.trod enc P W base spare held n T [v] = some (d, p)) :
    ∃ zs, Ints W v zs ∧ Len d zs.length := by
  rcases open_ints hT hE hC h with ⟨hcs, hx⟩ | ⟨a, len, cap, zs, hcs, hb, hl, hm, hz, hx, hc, hw⟩
  · simp only [List.cons.injEq, and_true] at hcs
    simp only [Prod.mk.injEq] at hx
    exact ⟨[], .inl ⟨hcs, rfl⟩, .inl ⟨hx.1, rfl⟩⟩
  · simp only [List.cons.injEq, and_true] at hcs
    simp only [Prod.mk.injEq] at hx
    have hlz : len ≤ zs.length := by rw [hz]; split <;> omega
    have hlen : (zs.take len).length = len := by simp; omega
    refine ⟨zs.take len, .inr ⟨a, cap, by rw [hlen]; exact hcs, by rw [hlen]; exact hl, by unfold maxLen at hm; omega, fun k x hk => ?_⟩, .inr ⟨_, _, hx.1, by simp [lits]⟩⟩
    obtain ⟨hkl, hz2⟩ := List.getElem?_eq_some_iff.1 hk
    simp at hkl hz2
    rw [hc k (by omega)]
    have e : zs.getD k 0 = x := by rw [List.getD_eq_getElem?_getD, List.getElem?_eq_getElem (by omega)]; exact hz2
    rw [e]
theorem bytes_of_trod {T E : TypeId} (hT : P.underlying T = some (.slice E)) (hE : P.underlying E = some (.int .u8)) (hC : P.cellsOf E = 1) (h : DataW.trod enc P W base spare held n T [v] = some (d, p)) :
    ∃ bs, Src W v bs ∧ Len d bs.length := by
  rcases open_ints hT hE hC h with ⟨hcs, hx⟩ | ⟨a, len, cap, zs, hcs, hb, hl, hm, hz, hx, hc, hw⟩
  · simp only [List.cons.injEq, and_true] at hcs
    simp only [Prod.mk.injEq] at hx
    exact ⟨[], ⟨by simp, .inl ⟨hcs, rfl⟩⟩, .inl ⟨hx.1, rfl⟩⟩
  · simp only [List.cons.injEq, and_true] at hcs
    simp only [Prod.mk.injEq] at hx
    have hlz : len ≤ zs.length := by rw [hz]; split <;> omega
    have hlen : ((zs.take len).map Int.toNat).length = len := by simp; omega
    have hin : ∀ z ∈ zs, 0 ≤ z ∧ z ≤ 255 := fun z hz => by
      have := hw z hz
      simp [Lit.wf, IntKind.min, IntKind.max, IntKind.signed, IntKind.bits] at this
      omega
    refine ⟨(zs.take len).map Int.toNat, ⟨?_, .inr ⟨a, cap, by rw [hlen]; exact hcs, by rw [hlen]; exact hl, by unfold maxLen at hm; omega, ?_⟩⟩, .inr ⟨_, _, hx.1, by simp [lits]⟩⟩
    · intro x hx
      obtain ⟨z, hz, rfl⟩ := List.mem_map.1 hx
      have := hin z (List.mem_of_mem_take hz)
      omega
    · intro k x hk
      simp only [List.getElem?_map, Option.map_eq_some_iff] at hk
      obtain ⟨z, hz, rfl⟩ := hk
      obtain ⟨hkl, hz2⟩ := List.getElem?_eq_some_iff.1 hz
      simp at hkl hz2
      have hmem : z ∈ zs := by rw [← hz2]; exact List.getElem_mem _
      have h0 := hin z hmem
      rw [hc k (by omega)]
      have e : zs.getD k 0 = z := by rw [List.getD_eq_getElem?_getD, List.getElem?_eq_getElem (by omega)]; exact hz2
      rw [e, Int.toNat_of_nonneg h0.1]
end
set_option maxRecDepth 100000 in
theorem open_nums {H : Type} {enc : TypeId × Value → H} {W : World} {base : Nat} {v : Value} {d : DataW H} {p : List MemPlace}
    (hv : Value.okWide Tryd.prog W .any base 22 v) (h : DataW.Trod enc Tryd.prog W 0 (fun _ => true) true 22 v d p) : ∃ zs, Ints W v zs ∧ Len d zs.length := by
  obtain ⟨a0, len, cap, rfl⟩ := okWide_slice Tryd.underlying22 hv
  obtain ⟨fuel, hf⟩ := h
  exact ints_of_trod Tryd.underlying22 Tryd.underlying3 co3 hf
set_option maxRecDepth 100000 in
theorem open_bytes {H : Type} {enc : TypeId × Value → H} {W : World} {base : Nat} {v : Value} {d : DataW H} {p : List MemPlace}
    (hv : Value.okWide Tryd.prog W .any base 46 v) (h : DataW.Trod enc Tryd.prog W 0 (fun _ => true) true 46 v d p) : ∃ bs, Src W v bs ∧ Len d bs.length := by
  obtain ⟨a0, len, cap, rfl⟩ := okWide_slice Tryd.underlying46 hv
  obtain ⟨fuel, hf⟩ := h
  exact bytes_of_trod Tryd.underlying46 Tryd.underlying5 co5 hf
/-- the reach pays for their number -/
theorem nums_reach {H : Type} {ts : List TypeId} {ds : List (DataW H)} (hsz : (DataW.weightsEach Tryd.prog ts ds).all (· ≤ reachBytes) = true) {j : Nat} {d : DataW H} {k : Nat} (ht : ts[j]? = some 22) (hd : ds[j]? = some d)
    (h : Len d k) : k * 8 ≤ 140737488351232 := by
  rcases h with ⟨_, rfl⟩ | ⟨elems, sp, rfl, hl⟩
  · simp
  · have := sized_slice hsz ht hd Tryd.underlying22
    rw [by3] at this
    simp only [reachBytes] at this
    omega
theorem bytes_reach {H : Type} {ts : List TypeId} {ds : List (DataW H)} (hsz : (DataW.weightsEach Tryd.prog ts ds).all (· ≤ reachBytes) = true) {j : Nat} {d : DataW H} {k : Nat} (ht : ts[j]? = some 46) (hd : ds[j]? = some d)
    (h : Len d k) : k ≤ 140737488351232 := by
  rcases h with ⟨_, rfl⟩ | ⟨elems, sp, rfl, hl⟩
  · simp
  · have := sized_slice hsz ht hd Tryd.underlying46
    rw [by5] at this
    simp only [reachBytes] at this
    omega
end Go.Proofs.YtmkbbekeimnajaaDoor
