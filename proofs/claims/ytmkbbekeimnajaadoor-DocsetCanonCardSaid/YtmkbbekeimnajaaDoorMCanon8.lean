/- texts of this proof, one behind the other: WOneForm Rf Ra Rq Rt Al It -/
import Derived.Test.YtmkbbekeimnajaaDoorMCanon0
import Derived.Test.YtmkbbekeimnajaaDoorMCanon1
import Derived.Test.YtmkbbekeimnajaaDoorMCanon2
import Derived.Test.YtmkbbekeimnajaaDoorMCanon3
import Derived.Test.YtmkbbekeimnajaaDoorMCanon4
import Derived.Test.YtmkbbekeimnajaaDoorMCanon5
import Derived.Test.YtmkbbekeimnajaaDoorMCanon6
import Derived.Test.YtmkbbekeimnajaaDoorMCanon7
import Derived.RangeFuncNested
import Derived.RangeFuncBound
import Derived.RangeFuncBox
import Derived.RangeFuncLeaves
import Derived.Sort.QuietIn
import Derived.Sort.BigQuietIn
import Derived.StillTailTactics
import Derived.RangeFuncCalls
import Derived.Shelf.Abstract
import Derived.Shelf.RegionOpen
import Derived.OwnWalkIn
import Derived.TacticsInMore
import Derived.LoopNIn
import Derived.LoopIn
/-! WOneForm: the walk of DocsetOneForm -/
namespace Go.Proofs.YtmkbbekeimnajaaDoor
open Go.RowKit Ds
theorem SetAt.apart {w w' : World} {S g cap n S2 g2 : Nat} {m : Nat → Bool} (h : SetAt w S g cap n m) (hf : Foot w w' (fun k => k = S2 ∨ k = g2)) (a : S ≠ S2) (b : S ≠ g2) (c : g ≠ S2) (d : g ≠ g2) : SetAt w' S g cap n m := by
  obtain ⟨cur, h1, h2, h3⟩ := h.ws
  exact ⟨(hf.block _ (heap_lt h.hd) (fun e => e.elim a b)).trans h.hd, ⟨cur, (hf.block _ (heap_lt h1) (fun e => e.elim c d)).trans h1, h2, h3⟩, h.cap, h.off, h.small⟩
theorem encS_inj {n : Nat} {m k : Nat → Bool} (h : encS n m = encS n k) : ∀ i, i < n → m i = k i := by
  have h1 : body n m (nb n) ++ [] = body n k (nb n) ++ [] := by
    have := List.append_cancel_left h
    rw [this]
  have h2 := (body_unique n m k (nb n) [] [] (Nat.le_refl _) h1).1
  exact fun i hi => h2 i hi (by unfold nb; omega)
theorem enc_ne {n i : Nat} {m : Nat → Bool} (hi : i < n) : encS n (put m i (!m i)) ≠ encS n m := fun e => by
  have := encS_inj e i hi
  unfold put at this
  rw [if_pos rfl] at this
  cases h : m i <;> rw [h] at this <;> cases this
theorem put_ne {i : Nat} {m : Nat → Bool} : m ≠ put m i (!m i) := fun e => by
  have := congrFun e i
  unfold put at this
  rw [if_pos rfl] at this
  cases h : m i <;> rw [h] at this <;> cases this
theorem bytes_diff (w : World) (v1 v2 : Value) (xs ys : List Nat) (h1 : Src w v1 xs) (h2 : Src w v2 ys) (hne : xs ≠ ys) :
    Calls Tryd.prog 28 #[v1, v2] w fun e w' => e = .returned (.bool false) ∧ w = w' := (bytes_equal w v1 v2 xs ys h1 h2).mono fun e w' ⟨he, hw⟩ => ⟨by rw [he, decide_eq_false hne], hw⟩
set_option maxRecDepth 100000 in
set_option maxHeartbeats 8000000 in
theorem oneform_walk (w : World) (T : DeBr w) (E : Nat → Addr) (hE : Errs w E allErrs) (hg : 25 ≤ w.heap.size) (ao : Option Addr) (k0 : Nat) (bs : List Nat) (h1 : Src w (.slice ao bs.length k0) bs) (hl1 : bs.length ≤ 140737488351232) (i : Int) :
    Calls Tryd.prog 7 #[.slice ao bs.length k0, .int .i64 i] w fun e w' => e = .returned (.bool true) ∧ Below w.heap.size w w' := by
  have HT := hide T
  have HE := hide hE
  have H1 := hide h1
  clear T hE h1
  go_enter Tryd.func7, Tryd.ntmps7
  go_wp2_with fail
  refine (fixed_any w E HE.out HT.out hg).mono ?_
  rintro e w1 ⟨rfl, hb1⟩
  have HB1 := hide hb1
  have z1 := hb1.size
  have HE1 := hide (HE.out.below hb1 (Nat.le_refl _) (ids_lt hg))
  have HS1 := hide (src_keep H1.out hb1)
  clear hb1
  go_wp2_with fail
  refine (decode_any w1 _ bs HS1.out hl1 E HE1.out (by omega)).mono ?_
  rintro e w2 ⟨hd, hb2⟩
  have HB2 := hide (HB1.out.trans (hb2.mono z1))
  have z2 := HB2.out.size
  clear hb2
  unfold DecOut at hd
  rcases hd with ⟨n, m, S, g, hn, hbs, rfl, hS, hgg, hs⟩ | ⟨hno, rfl⟩
  · have HS := hide hs
    have HBS := hide hbs
    have HP2 := hide (src_keep H1.out HB2.out)
    clear hs hbs
    go_wp2_with fail
    refine (encode_set w2 HS.out).mono ?_
    rintro e w3 ⟨q3, _, rfl, hh3, hb3⟩
    have HB3 := hide (HB2.out.trans (hb3.mono z2))
    have HS3 := hide (HS.out.keep hb3)
    have HQ3 := hide (src_encS hn hh3)
    have HP3 := hide (src_keep H1.out HB3.out)
    have z3 := HB3.out.size
    clear hh3 hb3 HS HP2
    have HY := hide (bytes_same w3 _ _ _ HQ3.out (by rw [← HBS.out]; exact HP3.out))
    go_wp2_with fail
    refine HY.out.mono ?_
    rintro e wz ⟨rfl, rfl⟩
    go_wp2_with fail
    refine (clone_any w3 HS3.out).mono ?_
    rintro e w4 ⟨S2, g2, cap2, rfl, hS2, hg2, hs4, hb4⟩
    have HB4 := hide (HB3.out.trans (hb4.mono z3))
    have HS4 := hide (HS3.out.keep hb4)
    have HT4 := hide hs4
    have z4 := HB4.out.size
    have z34 := hb4.size
    have hS3 := heap_lt HS3.out.hd
    have hg3 : g < w3.heap.size := by obtain ⟨cur, h, _⟩ := HS3.out.ws; exact heap_lt h
    have hSS : S ≠ S2 := by omega
    have hSg : S ≠ g2 := by omega
    have hgS : g ≠ S2 := by omega
    have hggg : g ≠ g2 := by omega
    have HLN := hide (len_any w4 HS4.out)
    clear hs4 hb4 HS3 HQ3 HP3 HY
    by_cases hi0 : i < 0
    · go_wp2_with fail
      go_ret
      exact ⟨rfl, HB4.out⟩
    by_cases hin : (n : Int) ≤ i
    · go_wp2_with fail
      refine HLN.out.mono ?_
      rintro e wz ⟨rfl, rfl⟩
      go_wp2_with fail
      go_ret
      exact ⟨rfl, HB4.out⟩
    obtain ⟨k, rfl⟩ := Int.eq_ofNat_of_zero_le (show 0 ≤ i by omega)
    have hkn : k < n := by omega
    have HHS := hide (has_in w4 HT4.out k hkn)
    have MUT : ∀ (w5 : World), SetAt w5 S2 g2 cap2 n (put m k (!m k)) → Foot w4 w5 (fun k => k = S2 ∨ k = g2) → Below w.heap.size w w5 ∧ SetAt w5 S g (nw n) n m := fun w5 h5 hf5 =>
      ⟨HB4.out.trans (hf5.below (fun k hk => by rcases hk with rfl | rfl <;> omega) (by omega)), HS4.out.apart hf5 hSS hSg hgS hggg⟩
    have HMUT := hide MUT
    clear MUT
    obtain ⟨b, hb⟩ : ∃ b, m k = b := ⟨_, rfl⟩
    have HMB := hide hb
    rw [hb] at HHS HMUT
    have hREM : b = true → Calls Tryd.prog 15 #[.pointer (some ⟨S2, 0, none⟩), .int .i64 (k : Nat)] w4 fun e w' => e = .returned (.tuple #[.bool true, .nilIface]) ∧ SetAt w' S2 g2 cap2 n (put m k (!b)) ∧ Foot w4 w' (fun k => k = S2 ∨ k = g2) := fun h => by
      subst h; exact rem_new w4 HT4.out k hkn hb
    have hADD : b = false → Calls Tryd.prog 16 #[.pointer (some ⟨S2, 0, none⟩), .int .i64 (k : Nat)] w4 fun e w' => e = .returned (.tuple #[.bool true, .nilIface]) ∧ SetAt w' S2 g2 cap2 n (put m k (!b)) ∧ Foot w4 w' (fun k => k = S2 ∨ k = g2) := fun h => by
      subst h; exact add_new w4 HT4.out k hkn hb
    have HREM := hide hREM
    have HADD := hide hADD
    clear hREM hADD hb
    cases b with
    | true =>
      go_wp2_with fail
      refine HLN.out.mono ?_
      rintro e wz ⟨rfl, rfl⟩
      go_wp2_with fail
      refine HHS.out.mono ?_
      rintro e wz ⟨rfl, rfl⟩
      go_wp2_with fail
      refine (HREM.out trivial).mono ?_
      rintro e w5 ⟨rfl, hs5, hf5⟩
      obtain ⟨hb5, hss5⟩ := HMUT.out w5 hs5 hf5
      have HB5 := hide hb5
      have HS5 := hide hss5
      have HT5 := hide hs5
      have z5 := hb5.size
      clear hb5 hss5 hs5 hf5 HHS HMUT HREM HADD HS4 HT4 HLN
      go_wp2_with fail
      refine (encode_set w5 HS5.out).mono ?_
      rintro e w6 ⟨q6, _, rfl, hh6, hb6⟩
      have HB6 := hide (HB5.out.trans (hb6.mono z5))
      have HS6 := hide (HS5.out.keep hb6)
      have HT6 := hide (HT5.out.keep hb6)
      have HQ6 := hide (src_encS hn hh6)
      have z6 := HB6.out.size
      clear hh6 hb6 HS5 HT5
      have HY := hide (bytes_same w6 _ _ _ HQ6.out (by rw [← HBS.out]; exact src_keep H1.out HB6.out))
      go_wp2_with fail
      refine HY.out.mono ?_
      rintro e wz ⟨rfl, rfl⟩
      clear HY
      go_wp2_with fail
      refine (encode_set w6 HT6.out).mono ?_
      rintro e w7 ⟨q7, _, rfl, hh7, hb7⟩
      have HB7 := hide (HB6.out.trans (hb7.mono z6))
      have HS7 := hide (HS6.out.keep hb7)
      have HT7 := hide (HT6.out.keep hb7)
      have HQ7 := hide (src_encS hn hh7)
      have z7 := HB7.out.size
      clear hh7 hb7 HS6 HT6
      have hne := enc_ne (m := m) hkn
      rw [HMB.out] at hne
      have hpn := put_ne (i := k) (m := m)
      rw [HMB.out] at hpn
      have HY := hide (bytes_diff w7 _ _ _ bs HQ7.out (src_keep H1.out HB7.out) (by rw [HBS.out]; exact hne))
      have HEQ := hide (equal_no w7 HS7.out HT7.out (fun _ => hpn))
      clear hne hpn
      go_wp2_with fail
      refine HY.out.mono ?_
      rintro e wz ⟨rfl, rfl⟩
      go_wp2_with fail
      refine HEQ.out.mono ?_
      rintro e wz ⟨rfl, q, rfl⟩
      have HS8 := hide (HS7.out.keep (below_drewN (Below.refl _ _) q))
      have HT8 := hide (HT7.out.keep (below_drewN (Below.refl _ _) q))
      have HB8 := hide (below_drewN HB7.out q)
      have hh1 := has_in _ HS8.out k hkn
      rw [HMB.out] at hh1
      have hh2 := has_in _ HT8.out k hkn
      unfold put at hh2
      rw [if_pos rfl] at hh2
      have HH1 := hide hh1
      have HH2 := hide hh2
      clear hh1 hh2 HY HEQ
      go_wp2_with fail
      refine HH1.out.mono ?_
      rintro e wz ⟨rfl, rfl⟩
      go_wp2_with fail
      refine HH2.out.mono ?_
      rintro e wz ⟨rfl, rfl⟩
      go_wp2_with fail
      go_ret
      exact ⟨rfl, HB8.out⟩
    | false =>
      go_wp2_with fail
      refine HLN.out.mono ?_
      rintro e wz ⟨rfl, rfl⟩
      go_wp2_with fail
      refine HHS.out.mono ?_
      rintro e wz ⟨rfl, rfl⟩
      go_wp2_with fail
      refine (HADD.out trivial).mono ?_
      rintro e w5 ⟨rfl, hs5, hf5⟩
      obtain ⟨hb5, hss5⟩ := HMUT.out w5 hs5 hf5
      have HB5 := hide hb5
      have HS5 := hide hss5
      have HT5 := hide hs5
      have z5 := hb5.size
      clear hb5 hss5 hs5 hf5 HHS HMUT HREM HADD HS4 HT4 HLN
      go_wp2_with fail
      refine (encode_set w5 HS5.out).mono ?_
      rintro e w6 ⟨q6, _, rfl, hh6, hb6⟩
      have HB6 := hide (HB5.out.trans (hb6.mono z5))
      have HS6 := hide (HS5.out.keep hb6)
      have HT6 := hide (HT5.out.keep hb6)
      have HQ6 := hide (src_encS hn hh6)
      have z6 := HB6.out.size
      clear hh6 hb6 HS5 HT5
      have HY := hide (bytes_same w6 _ _ _ HQ6.out (by rw [← HBS.out]; exact src_keep H1.out HB6.out))
      go_wp2_with fail
      refine HY.out.mono ?_
      rintro e wz ⟨rfl, rfl⟩
      clear HY
      go_wp2_with fail
      refine (encode_set w6 HT6.out).mono ?_
      rintro e w7 ⟨q7, _, rfl, hh7, hb7⟩
      have HB7 := hide (HB6.out.trans (hb7.mono z6))
      have HS7 := hide (HS6.out.keep hb7)
      have HT7 := hide (HT6.out.keep hb7)
      have HQ7 := hide (src_encS hn hh7)
      have z7 := HB7.out.size
      clear hh7 hb7 HS6 HT6
      have hne := enc_ne (m := m) hkn
      rw [HMB.out] at hne
      have hpn := put_ne (i := k) (m := m)
      rw [HMB.out] at hpn
      have HY := hide (bytes_diff w7 _ _ _ bs HQ7.out (src_keep H1.out HB7.out) (by rw [HBS.out]; exact hne))
      have HEQ := hide (equal_no w7 HS7.out HT7.out (fun _ => hpn))
      clear hne hpn
      go_wp2_with fail
      refine HY.out.mono ?_
      rintro e wz ⟨rfl, rfl⟩
      go_wp2_with fail
      refine HEQ.out.mono ?_
      rintro e wz ⟨rfl, q, rfl⟩
      have HS8 := hide (HS7.out.keep (below_drewN (Below.refl _ _) q))
      have HT8 := hide (HT7.out.keep (below_drewN (Below.refl _ _) q))
      have HB8 := hide (below_drewN HB7.out q)
      have hh1 := has_in _ HS8.out k hkn
      rw [HMB.out] at hh1
      have hh2 := has_in _ HT8.out k hkn
      unfold put at hh2
      rw [if_pos rfl] at hh2
      have HH1 := hide hh1
      have HH2 := hide hh2
      clear hh1 hh2 HY HEQ
      go_wp2_with fail
      refine HH1.out.mono ?_
      rintro e wz ⟨rfl, rfl⟩
      go_wp2_with fail
      refine HH2.out.mono ?_
      rintro e wz ⟨rfl, rfl⟩
      go_wp2_with fail
      go_ret
      exact ⟨rfl, HB8.out⟩
  · clear hno
    go_wp2_with fail
    go_ret
    exact ⟨rfl, HB2.out⟩
end Go.Proofs.YtmkbbekeimnajaaDoor

/-! Rf: A range over a function whose iterator also tells what lies in memory at what it hands over; plain, for any program. -/
namespace Go.Proofs.YtmkbbekeimnajaaDoor
open Go.RowKit
variable {F : Fence} {n : Nat} {P : Program}

/-- the blocks of S lie as they lay -/
structure Same (S : Nat → Prop) (A C : World) : Prop where
  size : A.heap.size ≤ C.heap.size
  same : ∀ (k : Nat) (o : Obj), S k → A.heap[k]? = some o → C.heap[k]? = some o
theorem Same.refl (S : Nat → Prop) (A : World) : Same S A A := ⟨Nat.le_refl _, fun _ _ _ h => h⟩
theorem Same.trans {S : Nat → Prop} {A C D : World} (h : Same S A C) (k : Same S C D) : Same S A D := ⟨Nat.le_trans h.size k.size, fun i o hi ho => k.same i o hi (h.same i o hi ho)⟩
theorem same_below {S : Nat → Prop} {A C : World} (h : Below A.heap.size A C) : Same S A C := ⟨h.size, fun k _ _ hk => (h.block k (Array.getElem?_eq_some_iff.1 hk).1).trans hk⟩
theorem same_under {S : Nat → Prop} {B : Nat} {A C : World} (h : Below B A C) (hS : ∀ k, S k → k < B) : Same S A C := ⟨h.size, fun k _ hk ho => (h.block k (hS k hk)).trans ho⟩
theorem same_cell {S : Nat → Prop} {A C : World} (h : Same S A C) {p : Addr} {v : Value} (hp : S p.block) (hv : A.cell? p = some v) : C.cell? p = some v := by
  obtain ⟨o, ho, _⟩ := cells_of_cell hv
  exact (World.cell?_of_block ((h.same _ _ hp ho).trans ho.symm)).trans hv

/-- THE ITERATOR: between two rounds it leaves all that lay there (J, Jx abide new blocks); what it hands over is 'Ok', told of the world behind the round ahead (A) and of this one (C); a round keeps the blocks of S. -/
def Tells {α : Type} (F : Fence) (n : Nat) (P : Program) (gf : Nat) (lb : Array Value) (encs : α → Array Value) (Ok : World → α → World → Prop) (Sa Sp : List α → Prop) (S : Nat → Prop) (w : World) : Prop :=
  ∀ (l : Nat) (J Jx : List α → World → Prop) (W : World), Below w.heap.size w W → (∀ s A C, J s A → Below A.heap.size A C → J s C) → (∀ s A C, Jx s A → Below A.heap.size A C → Jx s C) →
    (∀ pre x A C, J pre A → Below A.heap.size A C → Ok A x C → YieldAt F (n - 1) P l (encs x) C fun e C' => (e = .returned (.bool true) ∧ J (pre ++ [x]) C' ∧ Same S C C') ∨ (e = .returned (.bool false) ∧ Jx (pre ++ [x]) C')) →
    J [] W → CallsIn F n P gf (#[.func (.yield l) #[] #[]] ++ lb) W fun e W' => (∃ v, e = .returned v) ∧ ((∃ xs, Sa xs ∧ J xs W') ∨ (∃ pre, Sp pre ∧ Jx pre W'))

theorem ownFrom_later {β : Type} {B : Nat} {I : β → World → Prop} (h : OwnFrom B I) {s : β} {A C : World} (hs : I s A) (hb : Below A.heap.size A C) : I s C :=
  h s A C none hs (grown_of_below hb) (fun _ e => by cases e)

/-- THE LOOP -/
theorem range_told {α : Type} {g : Operand} {ps : Array Tmp} {assign body : Code} {Q : Exit → Act → World → Prop} {a : Act} {w : World}
    (hro : F.round = none) (h1 : 1 ≤ n) {gf : Nat} {lb : Array Value} (hg : a.eval g = .func (.func gf) #[] lb) (hFg : F.fn gf) (eg : ∀ args w, (callFunc gf args).run P w = .ok (.enter gf args) w)
    {encs : α → Array Value} {Ok : World → α → World → Prop} {Sa Sp : List α → Prop} {S : Nat → Prop} (hseq : Tells F (n - 1) P gf lb encs Ok Sa Sp S w) (hB : ∀ k, S k → k < w.heap.size) (hps : ∀ x, (encs x).size = ps.size)
    (I : List α → World → Prop) (Ix : Code → List α → World → Prop) (T : List α → α → Act → World → Prop) (hI : OwnFrom w.heap.size I) (hIx : ∀ c, OwnFrom w.heap.size (Ix c)) (hT : ∀ a', OwnFrom w.heap.size (fun (s : List α × α) W => T s.1 s.2 a' W)) (h0 : I [] w)
    (hassign : ∀ (l : Nat) (pre : List α) (x : α) (A C : World) (K : Act → World → Prop), I pre A → Below A.heap.size A C → Ok A x C → w.heap.size ≤ A.heap.size → (∀ a' C', KeepsFrom w.heap.size C C' → Same S C C' → T pre x a' C' → K a' C') →
      assign.wpIn (F.inRound l) (n - 1 - 1) P (Exit.then K (fun _ _ _ => False)) { tmps := (ps.zip (encs x)).foldl (fun t (p, v) => t.setIfInBounds p v) a.tmps, defers := [] } C)
    (hbody : ∀ (l : Nat) (pre : List α) (x : α) (a' : Act) (W : World), T pre x a' W → body.wpIn (F.inRound l) (n - 1 - 1) P (ownPostG w.heap.size (Same S) I Ix (pre ++ [x]) W) a' W)
    (hdone : ∀ (D : Nat) (xs : List α) (W : World), w.heap.size ≤ D → Sa xs → I xs W → W.heap[D]? = some (.deferred (some [])) → Q .normal { a with defers := { target := .collected D, args := #[] } :: a.defers } W)
    (hstop : ∀ (D : Nat) (c : Code) (pre : List α) (W : World), w.heap.size ≤ D → Sp pre → Ix c pre W → W.heap[D]? = some (.deferred (some [])) → c.wpIn F n P Q { a with defers := { target := .collected D, args := #[] } :: a.defers } W) :
    (Code.rangeFunc g ps assign body).wpIn F n P Q a w := by
  refine wpIn_rangeFunc fun fn hfn => ?_
  rw [hro]
  have book : ∃ R : LoopState → Option Code → Loop, ∀ st pe, R st pe = { state := st, pending := pe, fn := fn, tmps := a.tmps, params := ps, assign := assign, body := body, defers := w.heap.size } := ⟨_, fun _ _ => rfl⟩
  obtain ⟨R, hR⟩ := book
  have hlaid := run_enterLoop_outer (P := P) (w := w) fn a.tmps ps assign body
  rw [← hR] at hlaid
  have hd1 : ((w.alloc (.deferred (some []))).alloc (.loop (R .ready none))).heap[w.heap.size]? = some (.deferred (some [])) := (Below.heap_alloc _ _ _ (by simp)).trans (World.alloc_heap_new w _)
  have hl1 : ((w.alloc (.deferred (some []))).alloc (.loop (R .ready none))).heap[w.heap.size + 1]? = some (.loop (R .ready none)) := by
    have h := World.alloc_heap_new (w.alloc (.deferred (some []))) (.loop (R .ready none))
    rwa [World.size_alloc] at h
  have hi1 := hI.alloc (.loop (R .ready none)) (hI.alloc (.deferred (some [])) h0)
  have hb1 := ((Below.refl w.heap.size w).alloc (Nat.le_refl _) (.deferred (some []))).alloc (by simp) (.loop (R .ready none))
  have hz1 : w.heap.size ≤ ((w.alloc (.deferred (some []))).alloc (.loop (R .ready none))).heap.size := hb1.size
  generalize (w.alloc (.deferred (some []))).alloc (.loop (R .ready none)) = W1 at hlaid hd1 hl1 hi1 hb1 hz1
  refine ⟨w.heap.size + 1, [{ target := .collected w.heap.size, args := #[] }], W1, { target := .fn (.func gf) lb, args := #[.func (.yield (w.heap.size + 1)) #[] #[]] }, W1, gf, #[.func (.yield (w.heap.size + 1)) #[] #[]] ++ lb, W1, hlaid, ?_, ?_, ?_, fun _ => h1, ?_⟩
  · simp only [resolve, hg]
    simp [go_sem]
  · intro f' hf'
    simp [Target.leads] at hf'
    subst hf'
    exact hFg
  · simp [invoke, go_sem, eg]
  -- the books: the record and the block for deferred calls
  have kept : ∀ {X Y : World} {o : Obj} {k : Nat}, Below X.heap.size X Y → X.heap[k]? = some o → Y.heap[k]? = some o := fun hb hk => (hb.block _ (Array.getElem?_eq_some_iff.1 hk).1).trans hk
  have turned : ∀ {X : World} {r : Loop} {o' : Obj}, X.heap[w.heap.size + 1]? = some (.loop r) → Same S X (X.putObj (w.heap.size + 1) o') := fun {X r o'} h =>
    ⟨(grownBy_putObj' X (w.heap.size + 1) o').size, fun k o hk ho => (World.putObj_heap_other (fun e => by have := hB k hk; omega)).trans ho⟩
  refine (hseq (w.heap.size + 1)
    (fun pre W => I pre W ∧ W.heap[w.heap.size + 1]? = some (.loop (R .ready none)) ∧ W.heap[w.heap.size]? = some (.deferred (some [])))
    (fun pre W => ∃ c, Ix c pre W ∧ W.heap[w.heap.size + 1]? = some (.loop (R .done (some c))) ∧ W.heap[w.heap.size]? = some (.deferred (some [])))
    W1 hb1
    (fun s A C h hb => ⟨ownFrom_later hI h.1 hb, kept hb h.2.1, kept hb h.2.2⟩)
    (fun s A C h hb => by
      obtain ⟨c, hc, h2, h3⟩ := h
      exact ⟨c, ownFrom_later (hIx c) hc hb, kept hb h2, kept hb h3⟩)
    ?_ ⟨hi1, hl1, hd1⟩).mono ?_
  · rintro pre x A C ⟨hi, hl, hd⟩ hb hok
    have hzA : w.heap.size ≤ A.heap.size := by have := (Array.getElem?_eq_some_iff.1 hd).1; omega
    have hlC := kept hb hl
    have hdC := kept hb hd
    have hy := run_yield (P := P) (args := encs x) hlC (by rw [hR]; exact hps x)
    rw [hR] at hy
    refine ⟨fn, _, assign, body, hy, roundIn_of_wpIn hfn (hassign _ pre x A C _ hi hb hok hzA fun a' C2 hk2 hb2 ht => ?_)⟩
    have hl2 := hk2.same _ _ (by omega) hlC rfl
    have hd2 := hk2.same _ _ (Nat.le_refl _) hdC rfl
    have hlt := (Array.getElem?_eq_some_iff.1 hl2).1
    refine ⟨_, run_beginRound hl2 (by rw [hR]), ?_⟩
    have hbusy : (C2.putObj (w.heap.size + 1) (.loop { R .ready none with state := .busy })).heap[w.heap.size + 1]? = some (.loop { R .ready none with state := .busy }) := World.putObj_heap_same hlt
    have hd3 : (C2.putObj (w.heap.size + 1) (.loop { R .ready none with state := .busy })).heap[w.heap.size]? = some (.deferred (some [])) := (World.putObj_heap_other (by omega)).trans hd2
    have hb3 := turned (o' := .loop { R .ready none with state := .busy }) hl2
    have ht3 := (hT a').putObj (s := (pre, x)) (.loop { R .ready none with state := .busy }) ht (l := w.heap.size + 1) (by omega) hl2 rfl
    generalize C2.putObj (w.heap.size + 1) (.loop { R .ready none with state := .busy }) = C3 at hbusy hd3 hb3 ht3
    have close : ∀ (j : Option Code) (C4 : World), KeepsFrom w.heap.size C3 C4 → ∃ C5, (Instr.endRound (w.heap.size + 1) j).run P C4 = .ok (.bool j.isNone) C5 ∧ C5 = C4.putObj (w.heap.size + 1) (.loop (R (if j.isNone then .ready else .done) j)) ∧
        C4.heap[w.heap.size + 1]? = some (.loop { R .ready none with state := .busy }) ∧ C5.heap[w.heap.size + 1]? = some (.loop (R (if j.isNone then .ready else .done) j)) ∧ C5.heap[w.heap.size]? = some (.deferred (some [])) := by
      intro j C4 hk4
      have hl4 := hk4.same _ _ (by omega) hbusy rfl
      have h := run_endRound (P := P) j hl4
      rw [hR] at h
      exact ⟨_, h, by rw [hR], hl4, by rw [hR]; exact World.putObj_heap_same (Array.getElem?_eq_some_iff.1 hl4).1, (World.putObj_heap_other (by omega)).trans (hk4.same _ _ (Nat.le_refl _) hd3 rfl)⟩
    refine wpIn_mono (hbody _ pre x a' _ ht3) ?_
    intro e a4 C4 hp
    match e, hp with
    | .normal, ⟨hk4, hb4, hi4⟩ =>
      obtain ⟨C5, hr, rfl, h4, h5, h6⟩ := close none C4 hk4
      exact ⟨_, _, hr, .inl ⟨rfl, ⟨hI.putObj _ hi4 (by omega) h4 rfl, h5, h6⟩, hb2.trans (hb3.trans (hb4.trans (turned h4)))⟩⟩
    | .ret, ⟨hk4, hi4⟩ =>
      obtain ⟨C5, hr, rfl, h4, h5, h6⟩ := close (some .ret) C4 hk4
      exact ⟨_, _, hr, .inr ⟨rfl, .ret, (hIx _).putObj _ hi4 (by omega) h4 rfl, h5, h6⟩⟩
    | .exit id, ⟨hk4, hi4⟩ =>
      obtain ⟨C5, hr, rfl, h4, h5, h6⟩ := close (some (.exit id)) C4 hk4
      exact ⟨_, _, hr, .inr ⟨rfl, .exit id, (hIx _).putObj _ hi4 (by omega) h4 rfl, h5, h6⟩⟩
    | .goto t, ⟨hk4, hi4⟩ =>
      obtain ⟨C5, hr, rfl, h4, h5, h6⟩ := close (some (.goto t)) C4 hk4
      exact ⟨_, _, hr, .inr ⟨rfl, .goto t, (hIx _).putObj _ hi4 (by omega) h4 rfl, h5, h6⟩⟩
  · rintro e W2 ⟨⟨v, rfl⟩, ⟨xs, hS, hi, hl, hd⟩ | ⟨pre, hS, c, hi, hl, hd⟩⟩
    · have h := run_endLoop (P := P) hl (by rw [hR]; simp)
      rw [hR] at h
      exact ⟨none, _, h, hdone _ xs _ (Nat.le_refl _) hS (hI.putObj _ hi (by omega) hl rfl) ((World.putObj_heap_other (by omega)).trans hd)⟩
    · have h := run_endLoop (P := P) hl (by rw [hR]; simp)
      rw [hR] at h
      exact ⟨some c, _, h, hstop _ c pre _ (Nat.le_refl _) hS ((hIx c).putObj _ hi (by omega) hl rfl) ((World.putObj_heap_other (by omega)).trans hd)⟩

/-- THE ITERATOR: between two rounds it leaves all that lay there (J, Jx abide new blocks); what it hands over is 'Ok', told of the world behind the round ahead (A) and of this one (C); a round keeps the blocks of S. -/
def TellsAt {α : Type} (F : Fence) (n : Nat) (P : Program) (gf : Nat) (lb : Array Value) (encs : α → Array Value) (Ok : List α → World → α → World → Prop) (Sa Sp : List α → Prop) (S : Nat → Prop) (w : World) : Prop :=
  ∀ (l : Nat) (J Jx : List α → World → Prop) (W : World), Below w.heap.size w W → (∀ s A C, J s A → Below A.heap.size A C → J s C) → (∀ s A C, Jx s A → Below A.heap.size A C → Jx s C) →
    (∀ pre x A C, J pre A → Below A.heap.size A C → Ok pre A x C → YieldAt F (n - 1) P l (encs x) C fun e C' => (e = .returned (.bool true) ∧ J (pre ++ [x]) C' ∧ Same S C C') ∨ (e = .returned (.bool false) ∧ Jx (pre ++ [x]) C')) →
    J [] W → CallsIn F n P gf (#[.func (.yield l) #[] #[]] ++ lb) W fun e W' => (∃ v, e = .returned v) ∧ ((∃ xs, Sa xs ∧ J xs W') ∨ (∃ pre, Sp pre ∧ Jx pre W'))

/-- THE LOOP -/
theorem range_told_at {α : Type} {g : Operand} {ps : Array Tmp} {assign body : Code} {Q : Exit → Act → World → Prop} {a : Act} {w : World}
    (hro : F.round = none) (h1 : 1 ≤ n) {gf : Nat} {lb : Array Value} (hg : a.eval g = .func (.func gf) #[] lb) (hFg : F.fn gf) (eg : ∀ args w, (callFunc gf args).run P w = .ok (.enter gf args) w)
    {encs : α → Array Value} {Ok : List α → World → α → World → Prop} {Sa Sp : List α → Prop} {S : Nat → Prop} (hseq : TellsAt F (n - 1) P gf lb encs Ok Sa Sp S w) (hB : ∀ k, S k → k < w.heap.size) (hps : ∀ x, (encs x).size = ps.size)
    (I : List α → World → Prop) (Ix : Code → List α → World → Prop) (T : List α → α → Act → World → Prop) (hI : OwnFrom w.heap.size I) (hIx : ∀ c, OwnFrom w.heap.size (Ix c)) (hT : ∀ a', OwnFrom w.heap.size (fun (s : List α × α) W => T s.1 s.2 a' W)) (h0 : I [] w)
    (hassign : ∀ (l : Nat) (pre : List α) (x : α) (A C : World) (K : Act → World → Prop), I pre A → Below A.heap.size A C → Ok pre A x C → w.heap.size ≤ A.heap.size → (∀ a' C', KeepsFrom w.heap.size C C' → Same S C C' → T pre x a' C' → K a' C') →
      assign.wpIn (F.inRound l) (n - 1 - 1) P (Exit.then K (fun _ _ _ => False)) { tmps := (ps.zip (encs x)).foldl (fun t (p, v) => t.setIfInBounds p v) a.tmps, defers := [] } C)
    (hbody : ∀ (l : Nat) (pre : List α) (x : α) (a' : Act) (W : World), T pre x a' W → body.wpIn (F.inRound l) (n - 1 - 1) P (ownPostG w.heap.size (Same S) I Ix (pre ++ [x]) W) a' W)
    (hdone : ∀ (D : Nat) (xs : List α) (W : World), w.heap.size ≤ D → Sa xs → I xs W → W.heap[D]? = some (.deferred (some [])) → Q .normal { a with defers := { target := .collected D, args := #[] } :: a.defers } W)
    (hstop : ∀ (D : Nat) (c : Code) (pre : List α) (W : World), w.heap.size ≤ D → Sp pre → Ix c pre W → W.heap[D]? = some (.deferred (some [])) → c.wpIn F n P Q { a with defers := { target := .collected D, args := #[] } :: a.defers } W) :
    (Code.rangeFunc g ps assign body).wpIn F n P Q a w := by
  refine wpIn_rangeFunc fun fn hfn => ?_
  rw [hro]
  have book : ∃ R : LoopState → Option Code → Loop, ∀ st pe, R st pe = { state := st, pending := pe, fn := fn, tmps := a.tmps, params := ps, assign := assign, body := body, defers := w.heap.size } := ⟨_, fun _ _ => rfl⟩
  obtain ⟨R, hR⟩ := book
  have hlaid := run_enterLoop_outer (P := P) (w := w) fn a.tmps ps assign body
  rw [← hR] at hlaid
  have hd1 : ((w.alloc (.deferred (some []))).alloc (.loop (R .ready none))).heap[w.heap.size]? = some (.deferred (some [])) := (Below.heap_alloc _ _ _ (by simp)).trans (World.alloc_heap_new w _)
  have hl1 : ((w.alloc (.deferred (some []))).alloc (.loop (R .ready none))).heap[w.heap.size + 1]? = some (.loop (R .ready none)) := by
    have h := World.alloc_heap_new (w.alloc (.deferred (some []))) (.loop (R .ready none))
    rwa [World.size_alloc] at h
  have hi1 := hI.alloc (.loop (R .ready none)) (hI.alloc (.deferred (some [])) h0)
  have hb1 := ((Below.refl w.heap.size w).alloc (Nat.le_refl _) (.deferred (some []))).alloc (by simp) (.loop (R .ready none))
  have hz1 : w.heap.size ≤ ((w.alloc (.deferred (some []))).alloc (.loop (R .ready none))).heap.size := hb1.size
  generalize (w.alloc (.deferred (some []))).alloc (.loop (R .ready none)) = W1 at hlaid hd1 hl1 hi1 hb1 hz1
  refine ⟨w.heap.size + 1, [{ target := .collected w.heap.size, args := #[] }], W1, { target := .fn (.func gf) lb, args := #[.func (.yield (w.heap.size + 1)) #[] #[]] }, W1, gf, #[.func (.yield (w.heap.size + 1)) #[] #[]] ++ lb, W1, hlaid, ?_, ?_, ?_, fun _ => h1, ?_⟩
  · simp only [resolve, hg]
    simp [go_sem]
  · intro f' hf'
    simp [Target.leads] at hf'
    subst hf'
    exact hFg
  · simp [invoke, go_sem, eg]
  -- the books: the record and the block for deferred calls
  have kept : ∀ {X Y : World} {o : Obj} {k : Nat}, Below X.heap.size X Y → X.heap[k]? = some o → Y.heap[k]? = some o := fun hb hk => (hb.block _ (Array.getElem?_eq_some_iff.1 hk).1).trans hk
  have turned : ∀ {X : World} {r : Loop} {o' : Obj}, X.heap[w.heap.size + 1]? = some (.loop r) → Same S X (X.putObj (w.heap.size + 1) o') := fun {X r o'} h =>
    ⟨(grownBy_putObj' X (w.heap.size + 1) o').size, fun k o hk ho => (World.putObj_heap_other (fun e => by have := hB k hk; omega)).trans ho⟩
  refine (hseq (w.heap.size + 1)
    (fun pre W => I pre W ∧ W.heap[w.heap.size + 1]? = some (.loop (R .ready none)) ∧ W.heap[w.heap.size]? = some (.deferred (some [])))
    (fun pre W => ∃ c, Ix c pre W ∧ W.heap[w.heap.size + 1]? = some (.loop (R .done (some c))) ∧ W.heap[w.heap.size]? = some (.deferred (some [])))
    W1 hb1
    (fun s A C h hb => ⟨ownFrom_later hI h.1 hb, kept hb h.2.1, kept hb h.2.2⟩)
    (fun s A C h hb => by
      obtain ⟨c, hc, h2, h3⟩ := h
      exact ⟨c, ownFrom_later (hIx c) hc hb, kept hb h2, kept hb h3⟩)
    ?_ ⟨hi1, hl1, hd1⟩).mono ?_
  · rintro pre x A C ⟨hi, hl, hd⟩ hb hok
    have hzA : w.heap.size ≤ A.heap.size := by have := (Array.getElem?_eq_some_iff.1 hd).1; omega
    have hlC := kept hb hl
    have hdC := kept hb hd
    have hy := run_yield (P := P) (args := encs x) hlC (by rw [hR]; exact hps x)
    rw [hR] at hy
    refine ⟨fn, _, assign, body, hy, roundIn_of_wpIn hfn (hassign _ pre x A C _ hi hb hok hzA fun a' C2 hk2 hb2 ht => ?_)⟩
    have hl2 := hk2.same _ _ (by omega) hlC rfl
    have hd2 := hk2.same _ _ (Nat.le_refl _) hdC rfl
    have hlt := (Array.getElem?_eq_some_iff.1 hl2).1
    refine ⟨_, run_beginRound hl2 (by rw [hR]), ?_⟩
    have hbusy : (C2.putObj (w.heap.size + 1) (.loop { R .ready none with state := .busy })).heap[w.heap.size + 1]? = some (.loop { R .ready none with state := .busy }) := World.putObj_heap_same hlt
    have hd3 : (C2.putObj (w.heap.size + 1) (.loop { R .ready none with state := .busy })).heap[w.heap.size]? = some (.deferred (some [])) := (World.putObj_heap_other (by omega)).trans hd2
    have hb3 := turned (o' := .loop { R .ready none with state := .busy }) hl2
    have ht3 := (hT a').putObj (s := (pre, x)) (.loop { R .ready none with state := .busy }) ht (l := w.heap.size + 1) (by omega) hl2 rfl
    generalize C2.putObj (w.heap.size + 1) (.loop { R .ready none with state := .busy }) = C3 at hbusy hd3 hb3 ht3
    have close : ∀ (j : Option Code) (C4 : World), KeepsFrom w.heap.size C3 C4 → ∃ C5, (Instr.endRound (w.heap.size + 1) j).run P C4 = .ok (.bool j.isNone) C5 ∧ C5 = C4.putObj (w.heap.size + 1) (.loop (R (if j.isNone then .ready else .done) j)) ∧
        C4.heap[w.heap.size + 1]? = some (.loop { R .ready none with state := .busy }) ∧ C5.heap[w.heap.size + 1]? = some (.loop (R (if j.isNone then .ready else .done) j)) ∧ C5.heap[w.heap.size]? = some (.deferred (some [])) := by
      intro j C4 hk4
      have hl4 := hk4.same _ _ (by omega) hbusy rfl
      have h := run_endRound (P := P) j hl4
      rw [hR] at h
      exact ⟨_, h, by rw [hR], hl4, by rw [hR]; exact World.putObj_heap_same (Array.getElem?_eq_some_iff.1 hl4).1, (World.putObj_heap_other (by omega)).trans (hk4.same _ _ (Nat.le_refl _) hd3 rfl)⟩
    refine wpIn_mono (hbody _ pre x a' _ ht3) ?_
    intro e a4 C4 hp
    match e, hp with
    | .normal, ⟨hk4, hb4, hi4⟩ =>
      obtain ⟨C5, hr, rfl, h4, h5, h6⟩ := close none C4 hk4
      exact ⟨_, _, hr, .inl ⟨rfl, ⟨hI.putObj _ hi4 (by omega) h4 rfl, h5, h6⟩, hb2.trans (hb3.trans (hb4.trans (turned h4)))⟩⟩
    | .ret, ⟨hk4, hi4⟩ =>
      obtain ⟨C5, hr, rfl, h4, h5, h6⟩ := close (some .ret) C4 hk4
      exact ⟨_, _, hr, .inr ⟨rfl, .ret, (hIx _).putObj _ hi4 (by omega) h4 rfl, h5, h6⟩⟩
    | .exit id, ⟨hk4, hi4⟩ =>
      obtain ⟨C5, hr, rfl, h4, h5, h6⟩ := close (some (.exit id)) C4 hk4
      exact ⟨_, _, hr, .inr ⟨rfl, .exit id, (hIx _).putObj _ hi4 (by omega) h4 rfl, h5, h6⟩⟩
    | .goto t, ⟨hk4, hi4⟩ =>
      obtain ⟨C5, hr, rfl, h4, h5, h6⟩ := close (some (.goto t)) C4 hk4
      exact ⟨_, _, hr, .inr ⟨rfl, .goto t, (hIx _).putObj _ hi4 (by omega) h4 rfl, h5, h6⟩⟩
  · rintro e W2 ⟨⟨v, rfl⟩, ⟨xs, hS, hi, hl, hd⟩ | ⟨pre, hS, c, hi, hl, hd⟩⟩
    · have h := run_endLoop (P := P) hl (by rw [hR]; simp)
      rw [hR] at h
      exact ⟨none, _, h, hdone _ xs _ (Nat.le_refl _) hS (hI.putObj _ hi (by omega) hl rfl) ((World.putObj_heap_other (by omega)).trans hd)⟩
    · have h := run_endLoop (P := P) hl (by rw [hR]; simp)
      rw [hR] at h
      exact ⟨some c, _, h, hstop _ c pre _ (Nat.le_refl _) hS ((hIx c).putObj _ hi (by omega) hl rfl) ((World.putObj_heap_other (by omega)).trans hd)⟩
end Go.Proofs.YtmkbbekeimnajaaDoor

/-! Ra: A range over a function: the frame of a round named by what is handed over; plain, for any program. The marks that loops leave. -/
namespace Go.Proofs.YtmkbbekeimnajaaDoor
open Go.RowKit
variable {F : Fence} {n : Nat} {P : Program}
theorem ownFrom_and {β : Type} {B : Nat} {p : Prop} {I : β → World → Prop} (h : OwnFrom B I) : OwnFrom B (fun s W => p ∧ I s W) := fun s A C row hs hg hr => ⟨hs.1, h s A C row hs.2 hg hr⟩
theorem range_fr {α : Type} {g : Operand} {ps : Array Tmp} {assign body : Code} {Q : Exit → Act → World → Prop} {a : Act} {w : World} (fr : α → Act)
    (hro : F.round = none) (h1 : 1 ≤ n) {gf : Nat} {lb : Array Value} (hg : a.eval g = .func (.func gf) #[] lb) (hFg : F.fn gf) (eg : ∀ args w, (callFunc gf args).run P w = .ok (.enter gf args) w)
    {encs : α → Array Value} {Ok : List α → World → α → World → Prop} {Sa Sp : List α → Prop} {S : Nat → Prop} (hseq : TellsAt F (n - 1) P gf lb encs Ok Sa Sp S w) (hB : ∀ k, S k → k < w.heap.size) (hps : ∀ x, (encs x).size = ps.size)
    (I : List α → World → Prop) (Ix : Code → List α → World → Prop) (T : List α → α → World → Prop) (hI : OwnFrom w.heap.size I) (hIx : ∀ c, OwnFrom w.heap.size (Ix c)) (hT : OwnFrom w.heap.size (fun (s : List α × α) W => T s.1 s.2 W)) (h0 : I [] w)
    (hassign : ∀ (l : Nat) (pre : List α) (x : α) (A C : World) (K : Act → World → Prop), I pre A → Below A.heap.size A C → Ok pre A x C → w.heap.size ≤ A.heap.size → (∀ C', KeepsFrom w.heap.size C C' → Same S C C' → T pre x C' → K (fr x) C') →
      assign.wpIn (F.inRound l) (n - 1 - 1) P (Exit.then K (fun _ _ _ => False)) { tmps := (ps.zip (encs x)).foldl (fun t (p, v) => t.setIfInBounds p v) a.tmps, defers := [] } C)
    (hbody : ∀ (l : Nat) (pre : List α) (x : α) (W : World), T pre x W → body.wpIn (F.inRound l) (n - 1 - 1) P (ownPostG w.heap.size (Same S) I Ix (pre ++ [x]) W) (fr x) W)
    (hdone : ∀ (D : Nat) (xs : List α) (W : World), w.heap.size ≤ D → Sa xs → I xs W → W.heap[D]? = some (.deferred (some [])) → Q .normal { a with defers := { target := .collected D, args := #[] } :: a.defers } W)
    (hstop : ∀ (D : Nat) (c : Code) (pre : List α) (W : World), w.heap.size ≤ D → Sp pre → Ix c pre W → W.heap[D]? = some (.deferred (some [])) → c.wpIn F n P Q { a with defers := { target := .collected D, args := #[] } :: a.defers } W) :
    (Code.rangeFunc g ps assign body).wpIn F n P Q a w :=
  range_told_at hro h1 hg hFg eg hseq hB hps I Ix (fun pre x a' W => a' = fr x ∧ T pre x W) hI hIx (fun a' s A C row hs hg hr => ⟨hs.1, hT s A C row hs.2 hg hr⟩) h0
    (fun l pre x A C K hi hb hok hz hk => hassign l pre x A C K hi hb hok hz (fun C' h1 h2 h3 => hk _ C' h1 h2 ⟨rfl, h3⟩))
    (fun l pre x a' W ⟨e, ht⟩ => by subst e; exact hbody l pre x W ht) hdone hstop
/-- the ways out of a loop, its end and its break, meet -/
theorem range_join {α : Type} {g : Operand} {ps : Array Tmp} {assign body : Code} {b : Nat} {Q : Exit → Act → World → Prop} {a : Act} {w : World} (fr : α → Act)
    (hro : F.round = none) (h1 : 1 ≤ n) {gf : Nat} {lb : Array Value} (hg : a.eval g = .func (.func gf) #[] lb) (hFg : F.fn gf) (eg : ∀ args w, (callFunc gf args).run P w = .ok (.enter gf args) w)
    {encs : α → Array Value} {Ok : List α → World → α → World → Prop} {Sa Sp : List α → Prop} {S : Nat → Prop} (hseq : TellsAt F (n - 1) P gf lb encs Ok Sa Sp S w) (hB : ∀ k, S k → k < w.heap.size) (hps : ∀ x, (encs x).size = ps.size)
    (I : List α → World → Prop) (Ix : List α → World → Prop) (T : List α → α → World → Prop) (J : World → Prop) (hI : OwnFrom w.heap.size I) (hIx : OwnFrom w.heap.size Ix) (hT : OwnFrom w.heap.size (fun (s : List α × α) W => T s.1 s.2 W)) (h0 : I [] w)
    (hassign : ∀ (l : Nat) (pre : List α) (x : α) (A C : World) (K : Act → World → Prop), I pre A → Below A.heap.size A C → Ok pre A x C → w.heap.size ≤ A.heap.size → (∀ C', KeepsFrom w.heap.size C C' → Same S C C' → T pre x C' → K (fr x) C') →
      assign.wpIn (F.inRound l) (n - 1 - 1) P (Exit.then K (fun _ _ _ => False)) { tmps := (ps.zip (encs x)).foldl (fun t (p, v) => t.setIfInBounds p v) a.tmps, defers := [] } C)
    (hbody : ∀ (l : Nat) (pre : List α) (x : α) (W : World), T pre x W → body.wpIn (F.inRound l) (n - 1 - 1) P (ownPostG w.heap.size (Same S) I (fun c pre W => c = .exit b ∧ Ix pre W) (pre ++ [x]) W) (fr x) W)
    (hdone : ∀ (xs : List α) (W : World), Sa xs → I xs W → J W) (hstop : ∀ (pre : List α) (W : World), Sp pre → Ix pre W → J W)
    (hafter : ∀ (D : Nat) (W : World), w.heap.size ≤ D → J W → W.heap[D]? = some (.deferred (some [])) → Q .normal { a with defers := { target := .collected D, args := #[] } :: a.defers } W) :
    (Code.rangeFunc g ps assign body).wpIn F n P (Exit.inBlock b Q) a w :=
  range_fr fr hro h1 hg hFg eg hseq hB hps I (fun c pre W => c = .exit b ∧ Ix pre W) T hI (fun _ s A C row hs hg hr => ⟨hs.1, hIx s A C row hs.2 hg hr⟩) hT h0 hassign hbody
    (fun D xs W hD hs hi hd => hafter D W hD (hdone xs W hs hi) hd)
    (fun D c pre W hD hs hi hd => by
      obtain ⟨rfl, hx⟩ := hi
      refine wpIn_exit ?_
      simp only [Exit.inBlock, if_true]
      exact hafter D W hD (hstop pre W hs hx) hd)
def mk_ (D : Nat) : Deferred := { target := .collected D, args := #[] }
/-- the blocks of the marks: apart, new, no call in them -/
def Marks (W : World) (B : Nat) (Ds : List Nat) : Prop := Ds.Nodup ∧ ∀ D ∈ Ds, B ≤ D ∧ W.heap[D]? = some (.deferred (some []))
theorem marks_nil (W : World) (B : Nat) : Marks W B [] := ⟨List.nodup_nil, by simp⟩
def Past (W W' : World) (B : Nat) : Prop := Below B W W' ∧ ∀ (k : Nat) (cs : Array Value) (t : TypeId) (fr : Nat × Nat), W.heap[k]? = some (.cells cs t fr) → W'.heap[k]? = some (.cells cs t fr)
theorem leaves_marks {fn : Func} {tmps : Array Value} {R : Ending → World → Prop} {B : Nat} : ∀ (Ds : List Nat) (W : World), Marks W B Ds → B ≤ W.heap.size → (∀ W', Past W W' B → LeavesInM F n P fn tmps R [] .returning W') → LeavesInM F n P fn tmps R (Ds.map mk_) .returning W
  | [], W, _, _, h => h W ⟨Below.refl _ _, fun _ _ _ _ hk => hk⟩
  | D :: Ds, W, hM, hB, h => by
    obtain ⟨hnd, hall⟩ := hM
    obtain ⟨hBD, hD⟩ := hall D (by simp)
    have hg := grownBy_putObj' W D (.deferred none)
    refine ⟨by simp, .inl ⟨D, _, rfl, run_takeDeferred hD, ?_⟩⟩
    refine leaves_marks Ds _ ⟨(List.nodup_cons.1 hnd).2, fun D' hD' => ⟨(hall D' (by simp [hD'])).1, ?_⟩⟩ (Nat.le_trans hB hg.size) fun W' hp => h W' ⟨?_, fun k cs t fr hk => hp.2 k cs t fr ?_⟩
    · have hne : D' ≠ D := fun e => (List.nodup_cons.1 hnd).1 (e ▸ hD')
      exact (World.putObj_heap_other hne).trans (hall D' (by simp [hD'])).2
    · exact ((Below.refl B W).grown hg hB (fun k e => by cases e; exact hBD)).trans hp.1
    · refine (World.putObj_heap_other (fun e => ?_)).trans hk
      subst e
      rw [hk] at hD
      cases hD
end Go.Proofs.YtmkbbekeimnajaaDoor

/-! Rq: A region that only reads, in whatever order, in a round of a range over a function: plain, for any program. -/
namespace Go.Proofs.YtmkbbekeimnajaaDoor
open Go.RowKit
variable {F : Fence} {n : Nat} {P : Program} {ops : Array Oper} {Q : Exit → Act → World → Prop}

def noDefer (o : Oper) : Bool := match o.op with | .defer _ => false | _ => true
theorem noDefer_ne {o : Oper} (h : noDefer o = true) : ∀ c, o.op ≠ .defer c := by
  intro c e
  simp [noDefer, e] at h
theorem oper_round (l : Nat) (_hro : F.round = none) {o : Oper} (ho : noDefer o = true) {a : Act} {w : World} {K K' : Act → World → Prop} (hK : ∀ a w, K a w → K' a w) (h : o.wpIn F n P a w K Q) : o.wpIn (F.inRound l) n P a w K' Q := by
  have h' := Oper.wpIn_mono hK h
  unfold Oper.wpIn at *
  refine ⟨h'.1, ?_⟩
  have h2 := h'.2
  rw [Oper.semAt_eq _ _ _ (noDefer_ne ho)] at h2 ⊢
  generalize (execOp a.eval o).run P w = r at *
  cases r with
  | ok x w' => cases x <;> exact h2
  | halt x w' => cases x <;> exact h2
theorem any_round (l : Nat) (hro : F.round = none) {md : Region.Mode} (hp : ∀ (i : Nat) (o : Oper), ops[i]? = some o → noDefer o = true) : ∀ (fuel : Nat) (listed : Array Bool) (a : Act) (w : World), wpAnyIn F n P md ops Q fuel listed a w → wpAnyIn (F.inRound l) n P md ops Q fuel listed a w
  | 0, _, _, _, h => h
  | fuel + 1, listed, a, w, h => by
    refine ⟨h.1, fun i hi => ?_⟩
    have h1 := h.2 i hi
    unfold wpOpIn at *
    cases ho : ops[i]? with
    | none =>
      simp only [ho] at h1 ⊢
      exact any_round l hro hp fuel _ _ _ h1
    | some o =>
      simp only [ho] at h1 ⊢
      split
      · rename_i hw
        rw [if_pos hw] at h1
        exact oper_round l hro (hp i o ho) (fun a w => any_round l hro hp fuel _ a w) h1
      · rename_i hw
        rw [if_neg hw] at h1
        exact ⟨h1.1, any_round l hro hp fuel _ _ _ h1.2⟩
theorem region_quiet_round {id l : Nat} {a : Act} {w : World} {os : List Oper} (hro : F.round = none) (hm : P.follows .mixedOrders = true) (hB : Region.lexB .any os.toArray = true) (hp : os.all noDefer = true)
    (h : wpQuietIn F n P os.toArray (fun w' => ∃ n, w' = w.drewN n) (fun a' => ∀ w', (∃ n, w' = w.drewN n) → Q .normal a' w') os a) : (Code.region id os.toArray true).wpIn (F.inRound l) n P Q a w := by
  simp only [Region.lexB, Bool.and_eq_true] at hB
  refine wpIn_region_any hm (any_round l hro (fun i o ho => List.all_eq_true.1 hp o (by simpa using Array.mem_of_getElem? ho)) _ _ _ _ (wpAnyIn_of_quiet (C := fun w' => ∃ n, w' = w.drewN n) (Q := fun a' => ∀ w', (∃ n, w' = w.drewN n) → Q .normal a' w') hro (fun _ w' hw' h => h w' hw') _ _ _ _ ⟨1, rfl⟩ ?_))
  have := wpAnyQIn_lex (F := F) (n := n) (C := fun w' => ∃ n, w' = w.drewN n) (md := .any) hB.1 os.toArray.toList 0 (Array.replicate os.toArray.size false) a (by simp) (by simpa using hB.2) (by simpa using h)
  simpa using this
end Go.Proofs.YtmkbbekeimnajaaDoor

/-! Rt: A region that draws its order, in a round of a range over a function: what the plain walk shows of it serves; plain, for any program. -/
namespace Go.Proofs.YtmkbbekeimnajaaDoor
open Go.RowKit
variable {n : Nat} {P : Program} {ops : Array Oper} {Q : Exit → Act → World → Prop}
theorem rowsIn_wide' {row : String} {args : Array Value} {w : World} {R : Value → World → Prop} (h : Rows P row args w R) : RowsIn Fence.wide n P row args w R :=
  fun c cs _ => let ⟨v, w', r, s⟩ := h c cs; ⟨v, w', r, stepsIn_wide.2 s⟩
theorem operIn_wide {o : Oper} {a : Act} {w : World} {K : Act → World → Prop} (h : o.wp P a w K Q) : o.wpIn Fence.wide n P a w K Q := by
  unfold Oper.wpIn
  refine ⟨fun _ _ => trivial, ?_⟩
  have h' : o.upon P a K Q ((o.semAt Fence.wide.round a.eval).run P w) := h
  generalize (o.semAt Fence.wide.round a.eval).run P w = r at h' ⊢
  cases r with
  | ok x w' =>
    cases x <;> simp only [Oper.upon, Oper.uponIn] at h' ⊢ <;>
      first
        | exact h'
        | exact ⟨fun e => (by cases e), callsIn_wide.2 h'⟩
        | exact ⟨fun e => (by cases e), rowsIn_wide' h'⟩
        | exact h'.elim
  | halt x w' => cases x <;> simp only [Oper.upon, Oper.uponIn] at h' ⊢ <;> exact h'
theorem anyIn_wide {md : Region.Mode} (hQ : ¬ LetsOut Q) : ∀ (fuel : Nat) (listed : Array Bool) (a : Act) (w : World), wpAny P md ops Q fuel listed a w → wpAnyIn Fence.wide n P md ops Q fuel listed a w
  | 0, _, _, _, h => h
  | fuel + 1, listed, a, w, h => by
    refine ⟨h.1, fun i hi => ?_⟩
    have h1 := h.2 i hi
    unfold wpOp at h1
    unfold wpOpIn
    cases ho : ops[i]? with
    | none =>
      simp only [ho] at h1 ⊢
      exact anyIn_wide hQ fuel _ _ _ h1
    | some o =>
      simp only [ho] at h1 ⊢
      split
      · rename_i hw
        rw [if_pos hw] at h1
        exact Oper.wpIn_mono (fun a w => anyIn_wide hQ fuel _ a w) (operIn_wide (h1.resolve_right fun h => hQ h.2))
      · rename_i hw
        rw [if_neg hw] at h1
        exact ⟨fun _ _ => trivial, anyIn_wide hQ fuel _ _ _ h1⟩
/-- any region that draws, in a round -/
theorem region_any_round {id l : Nat} {a : Act} {w : World} {os : List Oper} (hQ : ¬ LetsOut Q) (hm : P.follows .mixedOrders = true) (hp : os.all noDefer = true)
    (h : wpAny P .any os.toArray Q os.toArray.size (Array.replicate os.toArray.size false) a { w with drawn := w.drawn + 1 }) : (Code.region id os.toArray true).wpIn (Fence.wide.inRound l) n P Q a w :=
  wpIn_region_any hm (any_round l rfl (fun i o ho => List.all_eq_true.1 hp o (by simpa using Array.mem_of_getElem? ho)) _ _ _ _ (anyIn_wide hQ _ _ _ _ h))
/-- reads, then what stands last -/
theorem region_still_round {id k : Nat} {a : Act} {w : World} {l : List Oper} (m : Nat) (hQ : ¬ LetsOut Q) (hm : P.follows .mixedOrders = true) (hp : l.all noDefer = true) (hB : Region.lexTailB .any l.toArray m = true)
    (h : wpStill P l.toArray { w with drawn := w.drawn + 1 } (fun a' => wpList P l.toArray Q (l.drop m) a' { w with drawn := w.drawn + 1 }) (l.take m) a) : (Code.region id l.toArray true).wpIn (Fence.wide.inRound k) n P Q a w := by
  simp only [Region.lexTailB, Bool.and_eq_true, decide_eq_true_eq] at hB
  obtain ⟨⟨⟨⟨hsel, hn⟩, hs⟩, hc⟩, hlex⟩ := hB
  have hn' : m < l.length := by simpa using hn
  have htl : (l.take m).length = m := by simp; omega
  have hdl : (l.drop m).length = l.toArray.size - m := by simp
  have inv0 : HeadInv .any l.toArray m (Array.replicate l.toArray.size false) :=
    ⟨by simp, fun j oj _ hl => (by rw [getD_replicate_false] at hl; cases hl), fun t _ ht => getD_in (by simpa using ht) (getD_replicate_false _ _)⟩
  have H := wpAnyL_lex (md := .any) (g := l.toArray.size - m) hsel hs hc hn (l.take m) 0 _ a (fun j hj => by
    have hj' : j < m := by rw [htl] at hj; exact hj
    simp [hj']) (by simpa using htl) inv0 (by rw [htl]; exact hlex) h
  refine region_any_round hQ hm hp ?_
  have := wpAny_of_head (Q' := Q) (g := l.toArray.size - m) (fun listed a' hL => by
    have := wpAny_of_seq (md := .any) (Q' := Q) (l.drop m) m listed a' { w with drawn := w.drawn + 1 } (fun j => by simp [List.getElem?_drop]) (by rw [hdl]; exact hL.1) hL.2
    rwa [hdl] at this) _ _ _ H
  rw [htl, show m + (l.toArray.size - m) = l.toArray.size by omega] at this
  exact this
end Go.Proofs.YtmkbbekeimnajaaDoor

/-! Al: what All hands out -/
namespace Go.Proofs.YtmkbbekeimnajaaDoor
open Go.RowKit Ds
set_option maxRecDepth 100000 in
set_option maxHeartbeats 2000000 in
theorem all_any (w : World) {S g cap n : Nat} {m : Nat → Bool} (h : SetAt w S g cap n m) :
    Calls Tryd.prog 14 #[.pointer (some ⟨S, 0, none⟩)] w fun e w' => ∃ c S2 g2 cap2, e = .returned (.func (.func 43) #[] #[.pointer (some ⟨c, 0, none⟩)]) ∧ w.heap.size ≤ c ∧ w.heap.size ≤ S2 ∧ w.heap.size ≤ g2 ∧
      w'.heap[c]? = some (.cells #[.pointer (some ⟨S2, 0, none⟩)] 24 (0, 0)) ∧ SetAt w' S2 g2 cap2 n m ∧ Below w.heap.size w w' := by
  have HS := hide h
  clear h
  go_enter Tryd.func14, Tryd.ntmps14
  go_wp2_with fail
  refine (clone_any w HS.out).mono ?_
  rintro e w2 ⟨S2, g2, cap2, rfl, h1, h2, hs2, hb2⟩
  have HS2 := hide hs2
  have HB2 := hide hb2
  have hz2 := hb2.size
  clear hs2 hb2
  go_wp2_with fail
  go_ret
  exact ⟨w2.heap.size, S2, g2, cap2, rfl, hz2, h1, h2, heap_new rfl _, HS2.out.keep ((Below.refl _ w2).alloc (Nat.le_refl _) _), HB2.out.alloc hz2 _⟩
end Go.Proofs.YtmkbbekeimnajaaDoor

/-! It: what the iterator of All tells -/
namespace Go.Proofs.YtmkbbekeimnajaaDoor
open Go.RowKit Ds
theorem set_same {S : Nat → Prop} {w w' : World} {A g cap n : Nat} {m : Nat → Bool} (h : SetAt w A g cap n m) (hs : Same S w w') (hA : S A) (hg : S g) : SetAt w' A g cap n m := by
  obtain ⟨cur, h1, h2, h3⟩ := h.ws
  exact ⟨hs.same _ _ hA h.hd, ⟨cur, hs.same _ _ hg h1, h2, h3⟩, h.cap, h.off, h.small⟩
theorem debr_same {S : Nat → Prop} {w w' : World} (h : DeBr w) (hs : Same S w w') (hS : S 15) : DeBr w' := fun j hj => same_cell hs hS (h j hj)
theorem wide_depth {n : Nat} : Fence.wide.depth.isSome = true → 1 ≤ n := fun h => by cases h
theorem mem_take {m : Nat → Bool} {n k x : Nat} (h : (Ds.mem m n)[k]? = some x) : (Ds.mem m n).take (k + 1) = (Ds.mem m n).take k ++ [x] := by
  rw [List.take_add_one, h]; rfl
def itEnc (x : Nat) : Array Value := #[.int .i64 (x : Nat)]
def itAt (ms : List Nat) (pre : List Nat) (_ : World) (x : Nat) (_ : World) : Prop := ms[pre.length]? = some x
set_option maxRecDepth 100000 in
set_option maxHeartbeats 4000000 in
theorem all_tells (S : Nat → Prop) (l0 c A g cap n : Nat) (m : Nat → Bool) (w : World) (hs : SetAt w A g cap n m) (hT : DeBr w) (hc : w.heap[c]? = some (.cells #[.pointer (some ⟨A, 0, none⟩)] 24 (0, 0)))
    (h15 : S 15) (hSc : S c) (hSA : S A) (hSg : S g) :
    TellsAt Fence.wide l0 Tryd.prog 43 #[.pointer (some ⟨c, 0, none⟩)] itEnc (itAt (Ds.mem m n)) (fun xs => xs = Ds.mem m n) (fun pre => ∃ k, k < cnt m n ∧ pre = (Ds.mem m n).take (k + 1)) S w := fun l J Jx W hW hJ hJx hY hst => by
  have hbW : Same S w W := same_below hW
  have hsm := hs.small
  have HS := hide hs
  have HT := hide hT
  have HC := hide hc
  have HY := hide hY
  have HJ := hide hJ
  have HBW := hide hbW
  have HST := hide hst
  clear hs hT hc hY hJ hbW hst hW
  refine callsIn_of_wp Tryd.func43 rfl trivial ?_ rfl
  simp only [Tryd.ntmps43, List.size_toArray, List.length_cons, List.length_nil, Nat.reduceAdd, Nat.reduceSub, Array.replicate_succ, Array.replicate_zero, List.push_toArray, List.append_toArray, List.nil_append, List.cons_append]
  have c0 := cell_of_one (HBW.out.same _ _ hSc HC.out)
  gi_wp2_with fail
  refine ⟨trivial, wide_depth, (callsIn_wide.2 (next_any W (set_same HS.out HBW.out hSA hSg) (debr_same HT.out HBW.out h15) 0)).mono ?_⟩
  rintro e W2 ⟨hno, rfl⟩
  obtain ⟨a, b, rfl, hat⟩ := next_at hno
  have HAT := hide (show AtK m n 0 a b from by simpa [cnt, Ds.mem] using hat)
  clear hno hat c0
  gi_wp2_with fail
  gi_loopw [3, 4] (fun a b wr => ∃ k, k ≤ cnt m n ∧ AtK m n k a b ∧ J ((Ds.mem m n).take k) wr ∧ Same S w wr) (fun a b _ => match b with | .bool true => cnt m n + 1 - cnt m ((intOf a).toNat + 1) | _ => 0)
  case atStart => exact ⟨0, Nat.zero_le _, HAT.out, HST.out, HBW.out⟩
  case round =>
    obtain ⟨k, hk, hat, hj, hb⟩ := hrel
    have HJr := hide hj
    have HB := hide hb
    have c0 := cell_of_one (HB.out.same _ _ hSc HC.out)
    clear hj hb HST HBW HAT
    unfold AtK at hat
    cases hx : (Ds.mem m n)[k]? with
    | none =>
      rw [hx] at hat
      obtain ⟨rfl, rfl⟩ := hat
      have hke : cnt m n ≤ k := List.getElem?_eq_none_iff.1 hx
      have hkk : k = cnt m n := by omega
      have HKK := hide hkk
      have HF := hide (show J (Ds.mem m n) wr from by
        have := HJr.out
        rw [HKK.out, List.take_of_length_le (by unfold cnt; exact Nat.le_refl _)] at this
        exact this)
      clear hx hkk hke
      gi_wp2_with fail
      go_end0
      exact ⟨⟨_, rfl⟩, .inl ⟨_, rfl, HF.out⟩⟩
    | some x =>
      rw [hx] at hat
      obtain ⟨rfl, rfl⟩ := hat
      obtain ⟨hxn, hc1, htk⟩ := mem_at hx
      have hkl : k < cnt m n := get_lt' hx
      obtain ⟨fn, tmps, assign, bdy, hy, hR⟩ := HY.out ((Ds.mem m n).take k) x wr wr HJr.out (Below.refl _ _) (by unfold itAt; rw [List.length_take, Nat.min_eq_left (by unfold cnt at hkl; omega)]; exact hx)
      have HRD := hide hR
      have HC1 := hide hc1
      have HX := hide (mem_take hx)
      dsimp only [itEnc] at hy
      clear hR hc1 hx htk
      gi_wp2_with fail
      refine ⟨wide_depth, HRD.out.mono ?_⟩
      rintro e W3 (⟨rfl, hJ3, hk3⟩ | ⟨rfl, hJx3⟩)
      · have HJ3 := hide (show J ((Ds.mem m n).take (k + 1)) W3 from by rw [HX.out]; exact hJ3)
        have HB3 := hide (HB.out.trans hk3)
        have c0 := cell_of_one (HB3.out.same _ _ hSc HC.out)
        have hwx : IntKind.i64.wrap ((x : Int) + 1) = (x : Int) + 1 := by rw [IntKind.wrap_i64]; omega
        clear hJ3 hk3 hy
        gi_wp2_with fail
        refine ⟨trivial, wide_depth, (callsIn_wide.2 (next_any W3 (set_same HS.out HB3.out hSA hSg) (debr_same HT.out HB3.out h15) ((x : Int) + 1))).mono ?_⟩
        rintro e W4 ⟨hno, rfl⟩
        obtain ⟨a, b, rfl, hat⟩ := next_at hno
        have HAT := hide (show AtK m n (k + 1) a b from by
          rw [show ((x : Int) + 1).toNat = x + 1 by omega, HC1.out] at hat
          exact hat)
        clear hno hat c0
        gi_wp2_with fail
        refine ⟨⟨k + 1, hkl, HAT.out, HJ3.out, HB3.out⟩, ?_⟩
        have h1 := HAT.out
        unfold AtK at h1
        simp only [intOf, Int.toNat_natCast, HC1.out]
        cases hx2 : (Ds.mem m n)[k + 1]? with
        | none =>
          rw [hx2] at h1
          obtain ⟨rfl, rfl⟩ := h1
          simp only []
          omega
        | some y =>
          rw [hx2] at h1
          obtain ⟨rfl, rfl⟩ := h1
          have := (mem_at hx2).2.1
          have h2 : k + 1 < cnt m n := get_lt' hx2
          simp only [Int.toNat_natCast, this]
          omega
      · have HJx3 := hide (show Jx ((Ds.mem m n).take (k + 1)) W3 from by rw [HX.out]; exact hJx3)
        clear hJx3 hy
        gi_wp2_with fail
        refine bodyPost_ret (results_none rfl _ _ _) rfl ?_
        exact ⟨⟨_, rfl⟩, .inr ⟨_, ⟨k, hkl, rfl⟩, HJx3.out⟩⟩
end Go.Proofs.YtmkbbekeimnajaaDoor
