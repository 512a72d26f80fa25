/- texts of this proof, one behind the other: Ta -/
import Derived.Test.YtmkbbekeimnajaaDoorMPlays0
import Derived.Test.YtmkbbekeimnajaaDoorMPlays1
import Derived.Test.YtmkbbekeimnajaaDoorMPlays2
import Derived.Test.YtmkbbekeimnajaaDoorMPlays3
import Derived.Test.YtmkbbekeimnajaaDoorMPlays4
import Derived.Test.YtmkbbekeimnajaaDoorMPlays5
import Derived.Test.YtmkbbekeimnajaaDoorMPlays6
import Derived.Test.YtmkbbekeimnajaaDoorMPlays7
import Derived.Test.YtmkbbekeimnajaaDoorMPlays8
/-! Ta: take -/
namespace Go.Proofs.YtmkbbekeimnajaaDoor
open Go.RowKit Ds
def TakeOut (w' : World) (S g n : Nat) (m : Nat → Bool) (j p N : Nat) (bv : Value) (rest : List Nat) (bs : List Nat) (e : Ending) : Prop :=
  (∃ f r at', Took (wid n j) rest f r ∧ e = .returned (.bool true) ∧ SetAt w' S g (nw n) n (setB m n j f) ∧ RdAt w' p at' bv N ∧ at' ≤ N ∧ bs.drop at' = r) ∨
  ((∀ f r, ¬ Took (wid n j) rest f r) ∧ e = .returned (.bool false))
/-- what take may touch -/
def Pl3 (S g p : Nat) : Nat → Prop := fun k => k = S ∨ k = g ∨ k = p
structure TkEnv (w wr : World) (S g n : Nat) (m : Nat → Bool) (p at_ N cap : Nat) (ao : Option Addr) (bs : List Nat) : Prop where
  set : SetAt wr S g (nw n) n m
  rd : RdAt wr p at_ (.slice ao N cap) N
  src : Src wr (.slice ao N cap) bs
  foot : Foot w wr (Pl3 S g p)
theorem TkEnv.below {w wr w' : World} {S g n : Nat} {m : Nat → Bool} {p at_ N cap : Nat} {ao : Option Addr} {bs : List Nat} (h : TkEnv w wr S g n m p at_ N cap ao bs) (hb : Below wr.heap.size wr w') : TkEnv w w' S g n m p at_ N cap ao bs :=
  ⟨h.set.keep hb, (hb.block p (heap_lt h.rd)).trans h.rd, src_keep h.src hb, h.foot.keep hb⟩
theorem TkEnv.drew {w wr : World} {S g n : Nat} {m : Nat → Bool} {p at_ N cap : Nat} {ao : Option Addr} {bs : List Nat} (h : TkEnv w wr S g n m p at_ N cap ao bs) (q : Nat) : TkEnv w (wr.drewN q) S g n m p at_ N cap ao bs :=
  h.below (below_drewN (Below.refl _ _) q)
/-- the reader has gone on -/
theorem TkEnv.read {w wr w' : World} {S g n : Nat} {m : Nat → Bool} {p at_ b N cap : Nat} {ao : Option Addr} {bs : List Nat} (h : TkEnv w wr S g n m p at_ N cap ao bs) (hr : RdAt w' p b (.slice ao N cap) N) (hf : Foot wr w' (fun k => k = p)) (hSp : S ≠ p) (hgp : g ≠ p)
    (hlt : ∀ k, (Value.slice ao N cap).ownBlock = some k → k < w.heap.size ∧ k ≠ p) : TkEnv w w' S g n m p b N cap ao bs := by
  obtain ⟨cur, h1, h2, h3⟩ := h.set.ws
  refine ⟨⟨(hf.block _ (heap_lt h.set.hd) hSp).trans h.set.hd, ⟨cur, (hf.block _ (heap_lt h1) hgp).trans h1, h2, h3⟩, h.set.cap, h.set.off, h.set.small⟩, hr, src_same h.src (fun k hk => hf.block k (Nat.lt_of_lt_of_le (hlt k hk).1 h.foot.size) (hlt k hk).2), ?_⟩
  exact ⟨hf.os.trans h.foot.os, hf.tape.trans h.foot.tape, hf.output.trans h.foot.output, Nat.le_trans h.foot.size hf.size, fun k hk hs => (hf.block k (Nat.lt_of_lt_of_le hk h.foot.size) (fun e => hs (.inr (.inr e)))).trans (h.foot.block k hk hs)⟩
/-- what has changed lies above -/
theorem TkEnv.high {w wr w' : World} {S g n : Nat} {m : Nat → Bool} {p at_ N cap : Nat} {ao : Option Addr} {bs : List Nat} (h : TkEnv w wr S g n m p at_ N cap ao bs) (hb : Below w.heap.size wr w') (hS : S < w.heap.size) (hg : g < w.heap.size) (hp : p < w.heap.size)
    (hlt : ∀ k, (Value.slice ao N cap).ownBlock = some k → k < w.heap.size ∧ k ≠ p) : TkEnv w w' S g n m p at_ N cap ao bs := by
  obtain ⟨cur, h1, h2, h3⟩ := h.set.ws
  exact ⟨⟨(hb.block _ hS).trans h.set.hd, ⟨cur, (hb.block _ hg).trans h1, h2, h3⟩, h.set.cap, h.set.off, h.set.small⟩, (hb.block _ hp).trans h.rd, src_same h.src (fun k hk => hb.block k (hlt k hk).1), foot_then h.foot hb⟩
theorem foot_lay {w wr w' : World} {S g p : Nat} (h : Foot w wr (Pl3 S g p)) (hf : Foot wr w' (fun k => k = S ∨ k = g)) : Foot w w' (Pl3 S g p) :=
  ⟨hf.os.trans h.os, hf.tape.trans h.tape, hf.output.trans h.output, Nat.le_trans h.size hf.size, fun k hk hs => (hf.block k (Nat.lt_of_lt_of_le hk h.size) (fun e => hs (by rcases e with e | e; exact .inl e; exact .inr (.inl e)))).trans (h.block k hk hs)⟩
theorem rd_lay {wr w' : World} {S g p at_ N : Nat} {bv : Value} (h : RdAt wr p at_ bv N) (hf : Foot wr w' (fun k => k = S ∨ k = g)) (hSp : S ≠ p) (hgp : g ≠ p) : RdAt w' p at_ bv N :=
  (hf.block p (heap_lt h) (fun e => by rcases e with e | e; exact hSp e.symm; exact hgp e.symm)).trans h
theorem drop_cons {bs r : List Nat} {a x : Nat} (h : bs.drop a = x :: r) : bs[a]? = some x ∧ bs.drop (a + 1) = r ∧ a < bs.length := by
  have h1 : bs[a]? = some x := by
    have := List.getElem?_drop (xs := bs) (i := a) (j := 0)
    rw [h] at this
    simpa using this.symm
  refine ⟨h1, ?_, get_lt' h1⟩
  rw [← List.drop_drop, h]
  rfl
set_option maxRecDepth 100000 in
set_option maxHeartbeats 8000000 in
theorem take_any (w : World) {S g n : Nat} {m : Nat → Bool} (j p at_ N cap : Nat) (ao : Option Addr) (bs : List Nat) (h : TkEnv w w S g n m p at_ N cap ao bs) (hj : 256 * j < n) (hm : ∀ k, 256 * j ≤ k → m k = false)
    (hN : bs.length = N) (hNl : N ≤ 140737488355328) (hat : at_ ≤ N) (hSp : S ≠ p) (hgp : g ≠ p) (hlt : ∀ k, (Value.slice ao N cap).ownBlock = some k → k < w.heap.size ∧ k ≠ p) (a : Addr) (hE : ErrAt w 2 a) (h2 : 2 < w.heap.size) (hp2 : p ≠ 2) (hS2 : S ≠ 2) (hg2 : g ≠ 2) :
    Calls Tryd.prog 65 #[.pointer (some ⟨S, 0, none⟩), .pointer (some ⟨p, 0, none⟩), .int .i64 (j : Nat)] w fun e w' => TakeOut w' S g n m j p N (.slice ao N cap) (bs.drop at_) bs e ∧ Foot w w' (Pl3 S g p) := by
  obtain ⟨c0, c1, c2⟩ := cells3 h.set.hd
  have hsm := h.set.small
  have hSw := heap_lt h.set.hd
  have hpw := heap_lt h.rd
  have hgw : g < w.heap.size := by obtain ⟨cur, h, _⟩ := h.set.ws; exact heap_lt h
  have HV := hide h
  have HM := hide hm
  have HN := hide hN
  have HL := hide hlt
  have HE := hide hE
  obtain ⟨W, hW⟩ : ∃ W, wid n j = W := ⟨_, rfl⟩
  have hW256 : W ≤ 256 := by rw [← hW]; exact wid_le n j
  have hW0 : 0 < W := by rw [← hW]; exact wid_pos (nb_lt.2 hj)
  have hif : (if (n : Int) - 256 * (j : Int) < 256 then (n : Int) - 256 * (j : Int) else 256) = (W : Int) := by rw [← hW]; unfold wid; split <;> omega
  have hj4 : j ≤ 4096 := by omega
  have HW := hide hW
  unfold TakeOut
  rw [hW]
  have LAY : ∀ (wr : World) (t D : Nat) (f : Nat → Bool), SetAt wr S g (nw n) n m → D ≤ 256 → (∀ i, i < D → f i = true → i < W) → (D < 256 → f D = true ∧ W ≤ D) →
      Calls Tryd.prog 87 #[.pointer (some ⟨S, 0, none⟩), .agg (octs f).toArray, .int .i64 (W : Nat), .int .i64 (j : Nat), .int .u8 (t : Nat)] wr fun e w' => LayOut w' S g n m j f t D e ∧ Foot wr w' (fun k => k = S ∨ k = g) := by
    intro wr t D f hs hD h1 h3
    rw [← hW] at h1 h3 ⊢
    exact lay_any wr hs j t D f hj hm hD h1 h3
  have HLAY := hide LAY
  have HEE := hide (show ∀ wr, Foot w wr (Pl3 S g p) → ErrAt wr 2 a from fun wr hf => by
    have hb := hf.block 2 h2 (fun e => by rcases e with e | e | e; exact hS2 e.symm; exact hg2 e.symm; exact hp2 e.symm)
    exact (World.cell?_of_block hb).trans hE)
  clear h hm hN hlt hE hW LAY
  go_enter Tryd.func65, Tryd.ntmps65
  go_wp2_with fail
  clear hif
  cases hrest : bs.drop at_ with
  | nil =>
    have hatN : at_ = N := by
      have := congrArg List.length hrest
      rw [List.length_drop, HN.out] at this
      simp at this
      omega
    subst hatN
    have HBE := hide (byte_end w p at_ _ a HV.out.rd hNl HE.out)
    have HNO := hide (show ∀ f r, ¬ Took W (bs.drop at_) f r from fun f r h => by rw [hrest] at h; cases h)
    clear hrest
    refine HBE.out.mono ?_
    rintro e w1 ⟨rfl, q, rfl⟩
    go_wp2_with fail
    go_ret
    exact ⟨.inr ⟨HNO.out, rfl⟩, HV.out.foot.drewN q⟩
  | cons t r1 =>
    have hdrest := hrest
    obtain ⟨hx, hd1, hlt1⟩ := drop_cons hrest
    rw [HN.out] at hlt1
    have ht256 := HV.out.src.1 t (List.mem_of_getElem? hx)
    have HBO := hide (byte_ok w p at_ N cap t ao bs HV.out.rd HV.out.src HN.out hNl hx HL.out)
    have HD1 := hide hd1
    clear hrest hx hd1
    refine HBO.out.mono ?_
    rintro e w1 ⟨rfl, hr1, hf1⟩
    have HV1 := hide (HV.out.read hr1 hf1 hSp hgp HL.out)
    clear hr1 hf1 HBO c0 c1 c2
    go_upto_region 6 with (fail)
    have hB0 : (w1.alloc (.cells #[.int .u8 0, .int .u8 0, .int .u8 0, .int .u8 0, .int .u8 0, .int .u8 0, .int .u8 0, .int .u8 0, .int .u8 0, .int .u8 0, .int .u8 0, .int .u8 0, .int .u8 0, .int .u8 0, .int .u8 0, .int .u8 0, .int .u8 0, .int .u8 0, .int .u8 0, .int .u8 0, .int .u8 0, .int .u8 0, .int .u8 0, .int .u8 0, .int .u8 0, .int .u8 0, .int .u8 0, .int .u8 0, .int .u8 0, .int .u8 0, .int .u8 0, .int .u8 0] 89)).heap[w1.heap.size]? = some (.cells #[.int .u8 0, .int .u8 0, .int .u8 0, .int .u8 0, .int .u8 0, .int .u8 0, .int .u8 0, .int .u8 0, .int .u8 0, .int .u8 0, .int .u8 0, .int .u8 0, .int .u8 0, .int .u8 0, .int .u8 0, .int .u8 0, .int .u8 0, .int .u8 0, .int .u8 0, .int .u8 0, .int .u8 0, .int .u8 0, .int .u8 0, .int .u8 0, .int .u8 0, .int .u8 0, .int .u8 0, .int .u8 0, .int .u8 0, .int .u8 0, .int .u8 0, .int .u8 0] 89 (0, 0)) := heap_new rfl _
    have HB0 := hide hB0
    have HV2 := hide (HV1.out.below ((Below.refl w1.heap.size w1).alloc (Nat.le_refl _) (.cells #[.int .u8 0, .int .u8 0, .int .u8 0, .int .u8 0, .int .u8 0, .int .u8 0, .int .u8 0, .int .u8 0, .int .u8 0, .int .u8 0, .int .u8 0, .int .u8 0, .int .u8 0, .int .u8 0, .int .u8 0, .int .u8 0, .int .u8 0, .int .u8 0, .int .u8 0, .int .u8 0, .int .u8 0, .int .u8 0, .int .u8 0, .int .u8 0, .int .u8 0, .int .u8 0, .int .u8 0, .int .u8 0, .int .u8 0, .int .u8 0, .int .u8 0, .int .u8 0] 89)))
    have hz2 : w1.heap.size < (w1.alloc (.cells #[.int .u8 0, .int .u8 0, .int .u8 0, .int .u8 0, .int .u8 0, .int .u8 0, .int .u8 0, .int .u8 0, .int .u8 0, .int .u8 0, .int .u8 0, .int .u8 0, .int .u8 0, .int .u8 0, .int .u8 0, .int .u8 0, .int .u8 0, .int .u8 0, .int .u8 0, .int .u8 0, .int .u8 0, .int .u8 0, .int .u8 0, .int .u8 0, .int .u8 0, .int .u8 0, .int .u8 0, .int .u8 0, .int .u8 0, .int .u8 0, .int .u8 0, .int .u8 0] 89)).heap.size := by rw [World.size_alloc]; omega
    have hw1 := HV1.out.foot.size
    clear hB0 HV1
    generalize w1.alloc (.cells #[.int .u8 0, .int .u8 0, .int .u8 0, .int .u8 0, .int .u8 0, .int .u8 0, .int .u8 0, .int .u8 0, .int .u8 0, .int .u8 0, .int .u8 0, .int .u8 0, .int .u8 0, .int .u8 0, .int .u8 0, .int .u8 0, .int .u8 0, .int .u8 0, .int .u8 0, .int .u8 0, .int .u8 0, .int .u8 0, .int .u8 0, .int .u8 0, .int .u8 0, .int .u8 0, .int .u8 0, .int .u8 0, .int .u8 0, .int .u8 0, .int .u8 0, .int .u8 0] 89) = w2 at *
    obtain ⟨b0, hb0⟩ : ∃ b, w1.heap.size = b := ⟨_, rfl⟩
    rw [hb0] at HB0 hz2 hw1 ⊢
    have HPB := hide (show p ≠ b0 from fun e => by have h := HV2.out.rd; unfold RdAt at h; rw [e, HB0.out] at h; simp at h)
    clear hb0
    have FIN : ∀ (wr : World) (a2 : Nat) (f f' : Nat → Bool) (r : List Nat), TkEnv w wr S g n m p a2 N cap ao bs → (∀ i, i < W → f i = f' i) → a2 ≤ N → bs.drop a2 = r → ∀ e w', LayOut w' S g n m j f t 256 e → Foot wr w' (fun k => k = S ∨ k = g) →
        (tagOf W (cnt f W) = t → Took W (bs.drop at_) f' r) → (tagOf W (cnt f W) ≠ t → ∀ f r, ¬ Took W (bs.drop at_) f r) →
        ((∃ f r at', Took W (bs.drop at_) f r ∧ e = .returned (.bool true) ∧ SetAt w' S g (nw n) n (setB m n j f) ∧ RdAt w' p at' (.slice ao N cap) N ∧ at' ≤ N ∧ bs.drop at' = r) ∨ ((∀ f r, ¬ Took W (bs.drop at_) f r) ∧ e = .returned (.bool false))) ∧ Foot w w' (Pl3 S g p) := by
      intro wr a2 f f' r hv hff ha2 hdr e w' ho hf hy hno
      unfold LayOut at ho
      rw [if_pos rfl, HW.out] at ho
      obtain ⟨rfl, hs⟩ := ho
      refine ⟨?_, foot_lay hv.foot hf⟩
      by_cases ht : tagOf W (cnt f W) = t
      · refine .inl ⟨f', r, a2, hy ht, by rw [decide_eq_true ht], ?_, rd_lay hv.rd hf hSp hgp, ha2, hdr⟩
        rw [← setB_congr (f := f) (g := f') (fun i hi => hff i (by rw [← HW.out]; exact hi))]
        exact hs
      · exact .inr ⟨hno ht, by rw [decide_eq_false ht]⟩
    have HFIN := hide FIN
    have HDR := hide hdrest
    clear FIN hdrest
    by_cases h0 : t = 0
    · subst h0
      go_wp2_with (refine wpList_load_row rfl 89 (.tmp 10) rfl b0 rfl 89 _ (0, 0) _ HB0.out Tryd.underlying89 rfl size89 ?_)
      refine (filled_no w2 W).mono ?_
      rintro e w3 ⟨rfl, hb3⟩
      have HV3 := hide (HV2.out.below hb3)
      have HB3 := hide ((hb3.block _ (heap_lt HB0.out)).trans HB0.out)
      clear hb3 HB0
      go_upto_region 30 with (refine wpList_store_row rfl 89 (.tmp 10) (.tmp 41) rfl b0 _ rfl rfl 89 _ HB3.out size89 rfl (octs_one _) ?_)
      have HB5 := hide (setRow_heap w3 b0 _ (octs (fillF false W)).toArray 89 (0, 0) HB3.out)
      have HV5 := hide (HV3.out.high (below_setRow (Below.refl _ w3) hw1 (octs (fillF false W)).toArray) hSw hgw hpw HL.out)
      clear HB3 HV3 HV2
      generalize w3.setRow b0 (octs (fillF false W)).toArray = w5 at *
      have HLY := hide (HLAY.out w5 0 256 (fillF false W) HV5.out.set (Nat.le_refl _) (fun i _ hi => by unfold fillF at hi; simp at hi) (fun h => absurd h (by omega)))
      go_wp2_with (refine wpList_load_row rfl 89 (.tmp 10) rfl b0 rfl 89 _ (0, 0) _ HB5.out Tryd.underlying89 rfl size89 ?_)
      refine HLY.out.mono ?_
      rintro e w6 ⟨ho, hf⟩
      have HO := hide ho
      have HFF := hide hf
      have ho' := ho
      unfold LayOut at ho'
      rw [if_pos rfl, HW.out] at ho'
      obtain ⟨rfl, _⟩ := ho'
      clear ho hf
      go_wp2_with fail
      go_ret
      exact HFIN.out w5 (at_ + 1) (fillF false W) (fun _ => false) r1 HV5.out (fun i _ => by rw [fill_ff]) (by omega) HD1.out _ _ HO.out HFF.out (fun _ => by rw [HDR.out]; exact .none r1) (fun h => (h (by rw [fill_ff, cnt_none]; rfl)).elim)
    by_cases h1 : t = 1
    · subst h1
      go_wp2_with (refine wpList_load_row rfl 89 (.tmp 10) rfl b0 rfl 89 _ (0, 0) _ HB0.out Tryd.underlying89 rfl size89 ?_)
      refine (filled_yes w2 W hW256).mono ?_
      rintro e w3 ⟨rfl, hb3⟩
      have HV3 := hide (HV2.out.below hb3)
      have HB3 := hide ((hb3.block _ (heap_lt HB0.out)).trans HB0.out)
      clear hb3 HB0
      go_upto_region 30 with (refine wpList_store_row rfl 89 (.tmp 10) (.tmp 41) rfl b0 _ rfl rfl 89 _ HB3.out size89 rfl (octs_one _) ?_)
      have HB5 := hide (setRow_heap w3 b0 _ (octs (fillF true W)).toArray 89 (0, 0) HB3.out)
      have HV5 := hide (HV3.out.high (below_setRow (Below.refl _ w3) hw1 (octs (fillF true W)).toArray) hSw hgw hpw HL.out)
      clear HB3 HV3 HV2
      generalize w3.setRow b0 (octs (fillF true W)).toArray = w5 at *
      have HLY := hide (HLAY.out w5 1 256 (fillF true W) HV5.out.set (Nat.le_refl _) (fun i _ hi => by unfold fillF at hi; simpa using hi) (fun h => absurd h (by omega)))
      go_wp2_with (refine wpList_load_row rfl 89 (.tmp 10) rfl b0 rfl 89 _ (0, 0) _ HB5.out Tryd.underlying89 rfl size89 ?_)
      refine HLY.out.mono ?_
      rintro e w6 ⟨ho, hf⟩
      have HO := hide ho
      have HFF := hide hf
      have ho' := ho
      unfold LayOut at ho'
      rw [if_pos rfl, HW.out] at ho'
      obtain ⟨rfl, _⟩ := ho'
      clear ho hf
      go_wp2_with fail
      go_ret
      exact HFIN.out w5 (at_ + 1) (fillF true W) (fun _ => true) r1 HV5.out (fun i hi => by unfold fillF; rw [decide_eq_true hi]; rfl) (by omega) HD1.out _ _ HO.out HFF.out (fun _ => by rw [HDR.out]; exact .all r1) (fun h => (h (by
        rw [cnt_congr (k := fun _ => true) (fun i hi => by unfold fillF; rw [decide_eq_true hi]; rfl), cnt_true]
        unfold tagOf
        rw [if_neg (by omega), if_pos rfl])).elim)
    by_cases h2' : t = 2
    · subst h2'
      clear h0 h1
      cases hr1 : r1 with
      | nil =>
        have hatN : at_ + 1 = N := by
          have h := congrArg List.length HD1.out
          rw [hr1, List.length_drop, HN.out] at h
          simp at h
          omega
        have hrd := HV2.out.rd
        rw [hatN] at hrd
        have HNO := hide (show ∀ f r, ¬ Took W (bs.drop at_) f r from fun f r h => by
          rw [HDR.out, hr1] at h
          rcases took_inv h with e | e | ⟨k, ps, e, _⟩ | ⟨k, ps, e, _⟩ | ⟨ps, e, _⟩ <;> simp at e)
        have HBE := hide (byte_end w2 p N _ a hrd hNl (HEE.out w2 HV2.out.foot))
        clear hr1 hrd hatN
        go_wp2_with fail
        refine HBE.out.mono ?_
        rintro e w3 ⟨rfl, q, rfl⟩
        go_wp2_with fail
        go_ret
        exact ⟨.inr ⟨HNO.out, rfl⟩, HV2.out.foot.drewN q⟩
      | cons kk r2 =>
        subst hr1
        obtain ⟨hx2, hd2, hlt2⟩ := drop_cons HD1.out
        rw [HN.out] at hlt2
        have hk256 := HV2.out.src.1 kk (List.mem_of_getElem? hx2)
        have hbe : ∀ k, (Value.slice ao N cap).ownBlock = some k → k < w2.heap.size ∧ k ≠ p := fun k hk => ⟨Nat.lt_of_lt_of_le (HL.out k hk).1 HV2.out.foot.size, (HL.out k hk).2⟩
        have HBO := hide (byte_ok w2 p (at_ + 1) N cap kk ao bs HV2.out.rd HV2.out.src HN.out hNl hx2 hbe)
        have HD2 := hide hd2
        clear hx2 hd2 hbe
        go_wp2_with fail
        refine HBO.out.mono ?_
        rintro e w3 ⟨rfl, hr3, hf3⟩
        have HV3 := hide (HV2.out.read hr3 hf3 hSp hgp HL.out)
        have HB3 := hide ((hf3.block b0 hz2 (fun e => HPB.out e.symm)).trans HB0.out)
        have hz3 : b0 < w3.heap.size := heap_lt HB3.out
        clear hr3 hf3 HBO HV2 HB0
        obtain ⟨L, hL⟩ : ∃ L, kk + 1 = L := ⟨_, rfl⟩
        have hLi : (kk : Int) + 1 = (L : Int) := by omega
        have hLw : IntKind.i64.wrap ((kk : Int) + 1) = (L : Int) := by rw [IntKind.wrap_i64]; omega
        have hL1 : 0 < L := by omega
        have hL256 : L ≤ 256 := by omega
        have HLK := hide hL
        have hlen2 : r2.length = N - (at_ + 1 + 1) := by rw [← HD2.out, List.length_drop, HN.out]
        have HLEN := hide hlen2
        have hbe3 : ∀ k, (Value.slice ao N cap).ownBlock = some k → k < w3.heap.size ∧ k ≠ p := fun k hk => ⟨Nat.lt_of_lt_of_le (HL.out k hk).1 HV3.out.foot.size, (HL.out k hk).2⟩
        clear hL hlen2
        by_cases hsh : N < at_ + 1 + 1 + L
        · have HNO := hide (show ∀ f r, ¬ Took W (bs.drop at_) f r from fun f r h => by
            rw [HDR.out] at h
            rcases took_inv h with e | e | ⟨k, ps, e, e2, _⟩ | ⟨k, ps, e, e2, _⟩ | ⟨ps, e, _⟩
            all_goals
              simp only [List.cons.injEq] at e
              first
                | omega
                | (obtain ⟨_, e3, e4⟩ := e
                   have h5 := congrArg List.length e4
                   rw [List.length_append, HLEN.out] at h5
                   have := HLK.out
                   omega))
          have HRS := hide (raw_short w3 p (at_ + 1 + 1) N L _ a HV3.out.rd (by omega) hNl (by omega) (HEE.out w3 HV3.out.foot))
          clear hbe3
          go_wp2_with fail
          refine HRS.out.mono ?_
          rintro e w4 ⟨rfl, q, rfl⟩
          go_wp2_with fail
          go_ret
          exact ⟨.inr ⟨HNO.out, rfl⟩, HV3.out.foot.drewN q⟩
        · have HRO := hide (raw_ok w3 p (at_ + 1 + 1) N cap L ao bs HV3.out.rd HV3.out.src HN.out hNl (by omega) hL1 hbe3)
          clear hbe3
          go_wp2_with fail
          refine HRO.out.mono ?_
          rintro e w4 ⟨gp, rfl, hgp4, hh4, hr4, hf4⟩
          have HV4 := hide (HV3.out.read hr4 hf4 hSp hgp HL.out)
          have HB4 := hide ((hf4.block b0 hz3 (fun e => HPB.out e.symm)).trans HB3.out)
          have HGP := hide (show w4.heap[gp]? = some (.cells (u8s (r2.take L)).toArray 5 (0, 0)) from by rw [← HD2.out]; exact hh4)
          have hgpw : w.heap.size ≤ gp := Nat.le_trans HV3.out.foot.size hgp4
          have hgb : gp ≠ b0 := by omega
          clear hh4 hr4 hf4 HRO HV3 HB3
          obtain ⟨ps, hps⟩ : ∃ ps, r2.take L = ps := ⟨_, rfl⟩
          have hpl : ps.length = L := by rw [← hps, List.length_take, HLEN.out]; omega
          rw [hps] at HGP
          have HPL := hide hpl
          have HR2 := hide (show r2 = ps ++ r2.drop L from by rw [← hps, List.take_append_drop])
          have hp256 : ∀ x ∈ ps, x < 256 := fun x hx => by
            rw [← hps, ← HD2.out] at hx
            exact HV4.out.src.1 x (List.mem_of_mem_drop (List.mem_of_mem_take hx))
          have HP256 := hide hp256
          have HSP := hide (show Src w4 (.slice (some ⟨gp, 0, none⟩) L L) ps from by
            have := src_block HGP.out hp256 (by omega)
            rw [hpl] at this
            exact this)
          clear hps hpl hp256
          by_cases hri : rising W ps
          · have HRI := hide hri
            have HRY := hide (rising_yes w4 _ L L W ps HSP.out HPL.out (by omega) hri)
            clear hri
            go_wp2_with fail
            refine HRY.out.mono ?_
            rintro e wz ⟨rfl, rfl⟩
            go_wp2_with (refine wpList_load_row rfl 89 (.tmp 10) rfl b0 rfl 89 _ (0, 0) _ HB4.out Tryd.underlying89 rfl size89 ?_)
            refine (filled_no w4 W).mono ?_
            rintro e w5 ⟨rfl, hb5⟩
            have HV5 := hide (HV4.out.below hb5)
            have HB5 := hide ((hb5.block _ (heap_lt HB4.out)).trans HB4.out)
            have HG5 := hide ((hb5.block _ (heap_lt HGP.out)).trans HGP.out)
            clear hb5 HB4 HGP HV4 HSP HRY
            go_upto_region 20 with (refine wpList_store_row rfl 89 (.tmp 10) (.tmp 72) rfl b0 _ rfl rfl 89 _ HB5.out size89 rfl (octs_one _) ?_)
            have HB6 := hide (setRow_heap w5 b0 _ (octs (fillF false W)).toArray 89 (0, 0) HB5.out)
            have HV6 := hide (HV5.out.high (below_setRow (Below.refl _ w5) hw1 (octs (fillF false W)).toArray) hSw hgw hpw HL.out)
            have HG6 := hide (show (w5.setRow b0 (octs (fillF false W)).toArray).heap[gp]? = some (.cells (u8s ps).toArray 5 (0, 0)) from (setRow_other w5 b0 gp _ hgb).trans HG5.out)
            clear HB5 HV5 HG5
            generalize w5.setRow b0 (octs (fillF false W)).toArray = w6 at *
            go_wp2_with fail
            go_loopw [75] (fun k wr => ∃ i : Nat, k = .int .i64 (i : Nat) ∧ i ≤ L ∧ wr.heap[b0]? = some (.cells (octs (flipT false W (ps.take i))).toArray 89 (0, 0)) ∧ wr.heap[gp]? = some (.cells (u8s ps).toArray 5 (0, 0)) ∧ TkEnv w wr S g n m p (at_ + 1 + 1 + L) N cap ao bs) (fun k _ => L - (intOf k).toNat)
            case atStart => exact ⟨0, rfl, Nat.zero_le _, by rw [List.take_zero, flip_nil]; exact HB6.out, HG6.out, HV6.out⟩
            case round =>
              obtain ⟨i, rfl, hi, hbr, hgr, hv⟩ := hrel
              have HBr := hide hbr
              have HGr := hide hgr
              have HVr := hide hv
              clear hbr hgr hv HB6 HG6 HV6
              by_cases hlt : i < L
              · have hii : (i : Int) < (L : Int) := by omega
                obtain ⟨x, hx⟩ : ∃ x, ps[i]? = some x := ⟨_, List.getElem?_eq_getElem (by rw [HPL.out]; exact hlt)⟩
                have hx256 := HP256.out x (List.mem_of_getElem? hx)
                have hcx : wr.cell? ⟨gp, i, none⟩ = some (.int .u8 (x : Nat)) := by
                  rw [cell_at HGr.out]
                  simp [u8s, hx]
                have hxn := has_take HRI.out hx
                have hft := flip_snoc (b := false) (W := W) hxn
                have htk : ps.take (i + 1) = ps.take i ++ [x] := by rw [List.take_add_one, hx]; rfl
                rw [← htk] at hft
                obtain ⟨fi, hfi⟩ : ∃ fi, flipT false W (ps.take i) = fi := ⟨_, rfl⟩
                rw [hfi] at hft
                have HBR := HBr.out
                rw [hfi] at HBR
                have hO := xor_bit8 fi x
                rw [← hft] at hO
                obtain ⟨q, hq⟩ : ∃ q, x / 8 = q := ⟨_, rfl⟩
                obtain ⟨r, hr⟩ : ∃ r, x % 8 = r := ⟨_, rfl⟩
                rw [hq, hr, IntKind.wrap_u8] at hO
                have hq32 : q < 32 := by omega
                have hr8 : r < 8 := by omega
                have hqi : (x : Int) / 8 = (q : Int) := by omega
                have hri : (x : Int) % 8 = (r : Int) := by omega
                have hcb : wr.cell? ⟨b0, q, none⟩ = some (.int .u8 (oct fi q : Nat)) := by
                  rw [cell_at HBR]
                  have := octs_get fi hq32
                  simpa using this
                have hfb := free_at HBR q
                have HPU := hide (show (wr.setCell ⟨b0, q, none⟩ (.int .u8 (oct (flipT false W (ps.take (i + 1))) q : Nat))).heap[b0]? = some (.cells (octs (flipT false W (ps.take (i + 1)))).toArray 89 (0, 0)) from by
                  rw [heap_set HBR, hft, ← hq, octs_put])
                have HGU := hide (show (wr.setCell ⟨b0, q, none⟩ (.int .u8 (oct (flipT false W (ps.take (i + 1))) q : Nat))).heap[gp]? = some (.cells (u8s ps).toArray 5 (0, 0)) from heap_else HGr.out hgb _)
                have HVU := hide (HVr.out.high (below_set (i := q) (Below.refl _ wr) hw1 (.int .u8 (oct (flipT false W (ps.take (i + 1))) q : Nat))) hSw hgw hpw HL.out)
                have HBQ := hide HBR
                clear hx hxn hft htk hfi hq hr HBR
                go_wp2_with fail
                exact ⟨⟨i + 1, vi (by omega), by omega, HPU.out, HGU.out, HVU.out⟩, by simp only [intOf]; omega⟩
              · obtain rfl : L = i := by omega
                have htake : ps.take L = ps := List.take_of_length_le (by rw [HPL.out]; exact Nat.le_refl _)
                have HB7 := hide (show wr.heap[b0]? = some (.cells (octs (flipT false W ps)).toArray 89 (0, 0)) from by have := HBr.out; rwa [htake] at this)
                have HLY := hide (HLAY.out wr 2 256 (flipT false W ps) HVr.out.set (Nat.le_refl _) (flip_lt HRI.out) (fun h => absurd h (by omega)))
                clear htake
                go_wp2_with (refine wpList_load_row rfl 89 (.tmp 10) rfl b0 rfl 89 _ (0, 0) _ HB7.out Tryd.underlying89 rfl size89 ?_)
                refine HLY.out.mono ?_
                rintro e w8 ⟨ho, hf⟩
                have HO := hide ho
                have HFF := hide hf
                have ho' := ho
                unfold LayOut at ho'
                rw [if_pos rfl, HW.out] at ho'
                obtain ⟨rfl, _⟩ := ho'
                clear ho hf
                go_wp2_with fail
                go_ret
                have hcc : cnt (flipT false W ps) W = cnt (has ps) W := cnt_congr (fun i hi => flip_list i)
                refine HFIN.out wr (at_ + 1 + 1 + L) (flipT false W ps) (has ps) (r2.drop L) HVr.out (fun i hi => flip_list i) (by omega) (by rw [← List.drop_drop, HD2.out]) _ _ HO.out HFF.out (fun ht => ?_) (fun ht f r h => ?_)
                · rw [hcc] at ht
                  rw [HDR.out, HR2.out]
                  have := Took.list (w := W) kk ps ((ps ++ r2.drop L).drop L) (by rw [HPL.out, HLK.out]) HRI.out ht
                  rw [List.drop_left' HPL.out] at this ⊢
                  exact this
                · rw [hcc] at ht
                  rw [HDR.out] at h
                  rcases took_inv h with e | e | ⟨k, qs, e, e2, _, e3⟩ | ⟨k, qs, e, e2, _, e3⟩ | ⟨qs, e, _⟩
                  all_goals
                    simp only [List.cons.injEq] at e
                    first
                      | omega
                      | (obtain ⟨_, rfl, e5⟩ := e
                         rw [HR2.out] at e5
                         have h6 : ps = qs := (List.append_inj e5 (by rw [HPL.out, e2, HLK.out])).1
                         subst h6
                         exact ht e3)
          · have HNO := hide (show ∀ f r, ¬ Took W (bs.drop at_) f r from fun f r h => by
              rw [HDR.out] at h
              rcases took_inv h with e | e | ⟨k, qs, e, e2, e3, _⟩ | ⟨k, qs, e, e2, e3, _⟩ | ⟨qs, e, _⟩
              all_goals
                simp only [List.cons.injEq] at e
                first
                  | omega
                  | (obtain ⟨_, rfl, e5⟩ := e
                     rw [HR2.out] at e5
                     have h6 : ps = qs := (List.append_inj e5 (by rw [HPL.out, e2, HLK.out])).1
                     subst h6
                     exact hri e3))
            have HRN := hide (rising_no w4 _ L L W ps HSP.out HPL.out (by omega) hri)
            clear hri
            go_wp2_with fail
            refine HRN.out.mono ?_
            rintro e wz ⟨rfl, rfl⟩
            go_wp2_with fail
            go_ret
            exact ⟨.inr ⟨HNO.out, rfl⟩, HV4.out.foot⟩
    by_cases h3 : t = 3
    · subst h3
      clear h0 h1
      cases hr1 : r1 with
      | nil =>
        have hatN : at_ + 1 = N := by
          have h := congrArg List.length HD1.out
          rw [hr1, List.length_drop, HN.out] at h
          simp at h
          omega
        have hrd := HV2.out.rd
        rw [hatN] at hrd
        have HNO := hide (show ∀ f r, ¬ Took W (bs.drop at_) f r from fun f r h => by
          rw [HDR.out, hr1] at h
          rcases took_inv h with e | e | ⟨k, ps, e, _⟩ | ⟨k, ps, e, _⟩ | ⟨ps, e, _⟩ <;> simp at e)
        have HBE := hide (byte_end w2 p N _ a hrd hNl (HEE.out w2 HV2.out.foot))
        clear hr1 hrd hatN
        go_wp2_with fail
        refine HBE.out.mono ?_
        rintro e w3 ⟨rfl, q, rfl⟩
        go_wp2_with fail
        go_ret
        exact ⟨.inr ⟨HNO.out, rfl⟩, HV2.out.foot.drewN q⟩
      | cons kk r2 =>
        subst hr1
        obtain ⟨hx2, hd2, hlt2⟩ := drop_cons HD1.out
        rw [HN.out] at hlt2
        have hk256 := HV2.out.src.1 kk (List.mem_of_getElem? hx2)
        have hbe : ∀ k, (Value.slice ao N cap).ownBlock = some k → k < w2.heap.size ∧ k ≠ p := fun k hk => ⟨Nat.lt_of_lt_of_le (HL.out k hk).1 HV2.out.foot.size, (HL.out k hk).2⟩
        have HBO := hide (byte_ok w2 p (at_ + 1) N cap kk ao bs HV2.out.rd HV2.out.src HN.out hNl hx2 hbe)
        have HD2 := hide hd2
        clear hx2 hd2 hbe
        go_wp2_with fail
        refine HBO.out.mono ?_
        rintro e w3 ⟨rfl, hr3, hf3⟩
        have HV3 := hide (HV2.out.read hr3 hf3 hSp hgp HL.out)
        have HB3 := hide ((hf3.block b0 hz2 (fun e => HPB.out e.symm)).trans HB0.out)
        have hz3 : b0 < w3.heap.size := heap_lt HB3.out
        clear hr3 hf3 HBO HV2 HB0
        obtain ⟨L, hL⟩ : ∃ L, kk + 1 = L := ⟨_, rfl⟩
        have hLi : (kk : Int) + 1 = (L : Int) := by omega
        have hLw : IntKind.i64.wrap ((kk : Int) + 1) = (L : Int) := by rw [IntKind.wrap_i64]; omega
        have hL1 : 0 < L := by omega
        have hL256 : L ≤ 256 := by omega
        have HLK := hide hL
        have hlen2 : r2.length = N - (at_ + 1 + 1) := by rw [← HD2.out, List.length_drop, HN.out]
        have HLEN := hide hlen2
        have hbe3 : ∀ k, (Value.slice ao N cap).ownBlock = some k → k < w3.heap.size ∧ k ≠ p := fun k hk => ⟨Nat.lt_of_lt_of_le (HL.out k hk).1 HV3.out.foot.size, (HL.out k hk).2⟩
        clear hL hlen2
        by_cases hsh : N < at_ + 1 + 1 + L
        · have HNO := hide (show ∀ f r, ¬ Took W (bs.drop at_) f r from fun f r h => by
            rw [HDR.out] at h
            rcases took_inv h with e | e | ⟨k, ps, e, e2, _⟩ | ⟨k, ps, e, e2, _⟩ | ⟨ps, e, _⟩
            all_goals
              simp only [List.cons.injEq] at e
              first
                | omega
                | (obtain ⟨_, e3, e4⟩ := e
                   have h5 := congrArg List.length e4
                   rw [List.length_append, HLEN.out] at h5
                   have := HLK.out
                   omega))
          have HRS := hide (raw_short w3 p (at_ + 1 + 1) N L _ a HV3.out.rd (by omega) hNl (by omega) (HEE.out w3 HV3.out.foot))
          clear hbe3
          go_wp2_with fail
          refine HRS.out.mono ?_
          rintro e w4 ⟨rfl, q, rfl⟩
          go_wp2_with fail
          go_ret
          exact ⟨.inr ⟨HNO.out, rfl⟩, HV3.out.foot.drewN q⟩
        · have HRO := hide (raw_ok w3 p (at_ + 1 + 1) N cap L ao bs HV3.out.rd HV3.out.src HN.out hNl (by omega) hL1 hbe3)
          clear hbe3
          go_wp2_with fail
          refine HRO.out.mono ?_
          rintro e w4 ⟨gp, rfl, hgp4, hh4, hr4, hf4⟩
          have HV4 := hide (HV3.out.read hr4 hf4 hSp hgp HL.out)
          have HB4 := hide ((hf4.block b0 hz3 (fun e => HPB.out e.symm)).trans HB3.out)
          have HGP := hide (show w4.heap[gp]? = some (.cells (u8s (r2.take L)).toArray 5 (0, 0)) from by rw [← HD2.out]; exact hh4)
          have hgpw : w.heap.size ≤ gp := Nat.le_trans HV3.out.foot.size hgp4
          have hgb : gp ≠ b0 := by omega
          clear hh4 hr4 hf4 HRO HV3 HB3
          obtain ⟨ps, hps⟩ : ∃ ps, r2.take L = ps := ⟨_, rfl⟩
          have hpl : ps.length = L := by rw [← hps, List.length_take, HLEN.out]; omega
          rw [hps] at HGP
          have HPL := hide hpl
          have HR2 := hide (show r2 = ps ++ r2.drop L from by rw [← hps, List.take_append_drop])
          have hp256 : ∀ x ∈ ps, x < 256 := fun x hx => by
            rw [← hps, ← HD2.out] at hx
            exact HV4.out.src.1 x (List.mem_of_mem_drop (List.mem_of_mem_take hx))
          have HP256 := hide hp256
          have HSP := hide (show Src w4 (.slice (some ⟨gp, 0, none⟩) L L) ps from by
            have := src_block HGP.out hp256 (by omega)
            rw [hpl] at this
            exact this)
          clear hps hpl hp256
          by_cases hri : rising W ps
          · have HRI := hide hri
            have HRY := hide (rising_yes w4 _ L L W ps HSP.out HPL.out (by omega) hri)
            clear hri
            go_wp2_with fail
            refine HRY.out.mono ?_
            rintro e wz ⟨rfl, rfl⟩
            go_wp2_with (refine wpList_load_row rfl 89 (.tmp 10) rfl b0 rfl 89 _ (0, 0) _ HB4.out Tryd.underlying89 rfl size89 ?_)
            refine (filled_yes w4 W hW256).mono ?_
            rintro e w5 ⟨rfl, hb5⟩
            have HV5 := hide (HV4.out.below hb5)
            have HB5 := hide ((hb5.block _ (heap_lt HB4.out)).trans HB4.out)
            have HG5 := hide ((hb5.block _ (heap_lt HGP.out)).trans HGP.out)
            clear hb5 HB4 HGP HV4 HSP HRY
            go_upto_region 20 with (refine wpList_store_row rfl 89 (.tmp 10) (.tmp 72) rfl b0 _ rfl rfl 89 _ HB5.out size89 rfl (octs_one _) ?_)
            have HB6 := hide (setRow_heap w5 b0 _ (octs (fillF true W)).toArray 89 (0, 0) HB5.out)
            have HV6 := hide (HV5.out.high (below_setRow (Below.refl _ w5) hw1 (octs (fillF true W)).toArray) hSw hgw hpw HL.out)
            have HG6 := hide (show (w5.setRow b0 (octs (fillF true W)).toArray).heap[gp]? = some (.cells (u8s ps).toArray 5 (0, 0)) from (setRow_other w5 b0 gp _ hgb).trans HG5.out)
            clear HB5 HV5 HG5
            generalize w5.setRow b0 (octs (fillF true W)).toArray = w6 at *
            go_wp2_with fail
            go_loopw [75] (fun k wr => ∃ i : Nat, k = .int .i64 (i : Nat) ∧ i ≤ L ∧ wr.heap[b0]? = some (.cells (octs (flipT true W (ps.take i))).toArray 89 (0, 0)) ∧ wr.heap[gp]? = some (.cells (u8s ps).toArray 5 (0, 0)) ∧ TkEnv w wr S g n m p (at_ + 1 + 1 + L) N cap ao bs) (fun k _ => L - (intOf k).toNat)
            case atStart => exact ⟨0, rfl, Nat.zero_le _, by rw [List.take_zero, flip_nil]; exact HB6.out, HG6.out, HV6.out⟩
            case round =>
              obtain ⟨i, rfl, hi, hbr, hgr, hv⟩ := hrel
              have HBr := hide hbr
              have HGr := hide hgr
              have HVr := hide hv
              clear hbr hgr hv HB6 HG6 HV6
              by_cases hlt : i < L
              · have hii : (i : Int) < (L : Int) := by omega
                obtain ⟨x, hx⟩ : ∃ x, ps[i]? = some x := ⟨_, List.getElem?_eq_getElem (by rw [HPL.out]; exact hlt)⟩
                have hx256 := HP256.out x (List.mem_of_getElem? hx)
                have hcx : wr.cell? ⟨gp, i, none⟩ = some (.int .u8 (x : Nat)) := by
                  rw [cell_at HGr.out]
                  simp [u8s, hx]
                have hxn := has_take HRI.out hx
                have hft := flip_snoc (b := true) (W := W) hxn
                have htk : ps.take (i + 1) = ps.take i ++ [x] := by rw [List.take_add_one, hx]; rfl
                rw [← htk] at hft
                obtain ⟨fi, hfi⟩ : ∃ fi, flipT true W (ps.take i) = fi := ⟨_, rfl⟩
                rw [hfi] at hft
                have HBR := HBr.out
                rw [hfi] at HBR
                have hO := xor_bit8 fi x
                rw [← hft] at hO
                obtain ⟨q, hq⟩ : ∃ q, x / 8 = q := ⟨_, rfl⟩
                obtain ⟨r, hr⟩ : ∃ r, x % 8 = r := ⟨_, rfl⟩
                rw [hq, hr, IntKind.wrap_u8] at hO
                have hq32 : q < 32 := by omega
                have hr8 : r < 8 := by omega
                have hqi : (x : Int) / 8 = (q : Int) := by omega
                have hri : (x : Int) % 8 = (r : Int) := by omega
                have hcb : wr.cell? ⟨b0, q, none⟩ = some (.int .u8 (oct fi q : Nat)) := by
                  rw [cell_at HBR]
                  have := octs_get fi hq32
                  simpa using this
                have hfb := free_at HBR q
                have HPU := hide (show (wr.setCell ⟨b0, q, none⟩ (.int .u8 (oct (flipT true W (ps.take (i + 1))) q : Nat))).heap[b0]? = some (.cells (octs (flipT true W (ps.take (i + 1)))).toArray 89 (0, 0)) from by
                  rw [heap_set HBR, hft, ← hq, octs_put])
                have HGU := hide (show (wr.setCell ⟨b0, q, none⟩ (.int .u8 (oct (flipT true W (ps.take (i + 1))) q : Nat))).heap[gp]? = some (.cells (u8s ps).toArray 5 (0, 0)) from heap_else HGr.out hgb _)
                have HVU := hide (HVr.out.high (below_set (i := q) (Below.refl _ wr) hw1 (.int .u8 (oct (flipT true W (ps.take (i + 1))) q : Nat))) hSw hgw hpw HL.out)
                have HBQ := hide HBR
                clear hx hxn hft htk hfi hq hr HBR
                go_wp2_with fail
                exact ⟨⟨i + 1, vi (by omega), by omega, HPU.out, HGU.out, HVU.out⟩, by simp only [intOf]; omega⟩
              · obtain rfl : L = i := by omega
                have htake : ps.take L = ps := List.take_of_length_le (by rw [HPL.out]; exact Nat.le_refl _)
                have HB7 := hide (show wr.heap[b0]? = some (.cells (octs (flipT true W ps)).toArray 89 (0, 0)) from by have := HBr.out; rwa [htake] at this)
                have HLY := hide (HLAY.out wr 3 256 (flipT true W ps) HVr.out.set (Nat.le_refl _) (flip_lt HRI.out) (fun h => absurd h (by omega)))
                clear htake
                go_wp2_with (refine wpList_load_row rfl 89 (.tmp 10) rfl b0 rfl 89 _ (0, 0) _ HB7.out Tryd.underlying89 rfl size89 ?_)
                refine HLY.out.mono ?_
                rintro e w8 ⟨ho, hf⟩
                have HO := hide ho
                have HFF := hide hf
                have ho' := ho
                unfold LayOut at ho'
                rw [if_pos rfl, HW.out] at ho'
                obtain ⟨rfl, _⟩ := ho'
                clear ho hf
                go_wp2_with fail
                go_ret
                have hcc : cnt (flipT true W ps) W = cnt (inv (has ps)) W := cnt_congr (fun i hi => flip_hole i hi)
                refine HFIN.out wr (at_ + 1 + 1 + L) (flipT true W ps) (inv (has ps)) (r2.drop L) HVr.out (fun i hi => flip_hole i hi) (by omega) (by rw [← List.drop_drop, HD2.out]) _ _ HO.out HFF.out (fun ht => ?_) (fun ht f r h => ?_)
                · rw [hcc] at ht
                  rw [HDR.out, HR2.out]
                  have := Took.hole (w := W) kk ps ((ps ++ r2.drop L).drop L) (by rw [HPL.out, HLK.out]) HRI.out ht
                  rw [List.drop_left' HPL.out] at this ⊢
                  exact this
                · rw [hcc] at ht
                  rw [HDR.out] at h
                  rcases took_inv h with e | e | ⟨k, qs, e, e2, _, e3⟩ | ⟨k, qs, e, e2, _, e3⟩ | ⟨qs, e, _⟩
                  all_goals
                    simp only [List.cons.injEq] at e
                    first
                      | omega
                      | (obtain ⟨_, rfl, e5⟩ := e
                         rw [HR2.out] at e5
                         have h6 : ps = qs := (List.append_inj e5 (by rw [HPL.out, e2, HLK.out])).1
                         subst h6
                         exact ht e3)
          · have HNO := hide (show ∀ f r, ¬ Took W (bs.drop at_) f r from fun f r h => by
              rw [HDR.out] at h
              rcases took_inv h with e | e | ⟨k, qs, e, e2, e3, _⟩ | ⟨k, qs, e, e2, e3, _⟩ | ⟨qs, e, _⟩
              all_goals
                simp only [List.cons.injEq] at e
                first
                  | omega
                  | (obtain ⟨_, rfl, e5⟩ := e
                     rw [HR2.out] at e5
                     have h6 : ps = qs := (List.append_inj e5 (by rw [HPL.out, e2, HLK.out])).1
                     subst h6
                     exact hri e3))
            have HRN := hide (rising_no w4 _ L L W ps HSP.out HPL.out (by omega) hri)
            clear hri
            go_wp2_with fail
            refine HRN.out.mono ?_
            rintro e wz ⟨rfl, rfl⟩
            go_wp2_with fail
            go_ret
            exact ⟨.inr ⟨HNO.out, rfl⟩, HV4.out.foot⟩
    by_cases h4 : t = 4
    · subst h4
      clear h0 h1 h2' h3
      obtain ⟨q, hq⟩ : ∃ q, (W + 7) / 8 = q := ⟨_, rfl⟩
      have hqi : ((W : Int) + 7) / 8 = (q : Int) := by omega
      have hq1 : 0 < q := by omega
      have hq32 : q ≤ 32 := by omega
      have HQ := hide hq
      have hlen1 : r1.length = N - (at_ + 1) := by rw [← HD1.out, List.length_drop, HN.out]
      have HLEN := hide hlen1
      have hbe : ∀ k, (Value.slice ao N cap).ownBlock = some k → k < w2.heap.size ∧ k ≠ p := fun k hk => ⟨Nat.lt_of_lt_of_le (HL.out k hk).1 HV2.out.foot.size, (HL.out k hk).2⟩
      clear hq hlen1
      by_cases hsh : N < at_ + 1 + q
      · have HNO := hide (show ∀ f r, ¬ Took W (bs.drop at_) f r from fun f r h => by
          rw [HDR.out] at h
          rcases took_inv h with e | e | ⟨k, ps, e, e2, _⟩ | ⟨k, ps, e, e2, _⟩ | ⟨ps, e, e2, _⟩
          all_goals
            simp only [List.cons.injEq] at e
            first
              | omega
              | (obtain ⟨_, e4⟩ := e
                 have h5 := congrArg List.length e4
                 rw [List.length_append, HLEN.out, e2, HQ.out] at h5
                 omega))
        have HRS := hide (raw_short w2 p (at_ + 1) N q _ a HV2.out.rd (by omega) hNl (by omega) (HEE.out w2 HV2.out.foot))
        clear hbe HB0
        go_wp2_with fail
        refine HRS.out.mono ?_
        rintro e w4 ⟨rfl, k, rfl⟩
        go_wp2_with fail
        go_ret
        exact ⟨.inr ⟨HNO.out, rfl⟩, HV2.out.foot.drewN k⟩
      · have HRO := hide (raw_ok w2 p (at_ + 1) N cap q ao bs HV2.out.rd HV2.out.src HN.out hNl (by omega) hq1 hbe)
        clear hbe
        go_wp2_with fail
        refine HRO.out.mono ?_
        rintro e w4 ⟨gp, rfl, hgp4, hh4, hr4, hf4⟩
        have HV4 := hide (HV2.out.read hr4 hf4 hSp hgp HL.out)
        have HB4 := hide ((hf4.block b0 hz2 (fun e => HPB.out e.symm)).trans HB0.out)
        have HGP := hide (show w4.heap[gp]? = some (.cells (u8s (r1.take q)).toArray 5 (0, 0)) from by rw [← HD1.out]; exact hh4)
        have hgb : gp ≠ b0 := by omega
        clear hh4 hr4 hf4 HRO HV2 HB0
        obtain ⟨ps, hps⟩ : ∃ ps, r1.take q = ps := ⟨_, rfl⟩
        have hpl : ps.length = q := by rw [← hps, List.length_take, HLEN.out]; omega
        rw [hps] at HGP
        have HPL := hide hpl
        have HR1 := hide (show r1 = ps ++ r1.drop q from by rw [← hps, List.take_append_drop])
        have hp256 : ∀ x ∈ ps, x < 256 := fun x hx => by
          rw [← hps, ← HD1.out] at hx
          exact HV4.out.src.1 x (List.mem_of_mem_drop (List.mem_of_mem_take hx))
        have HP256 := hide hp256
        have HCE := hide (show ∀ (j : Nat) (u : Value), (u8s ps)[j]? = some u → w4.cell? ⟨gp, j, none⟩ = some u from fun j u hu => by
          rw [cell_at HGP.out]
          simpa using hu)
        have HUL := hide (show (u8s ps).length = q from by rw [u8s_len]; exact hpl)
        have HSPL := hide (octs_bits ps hp256 (by omega) 32 rfl)
        have HZL := hide (show w4.heap[b0]? = some (.cells (u8s (List.replicate 32 0)).toArray 89 (0, 0)) from HB4.out)
        obtain ⟨i5, hi5, _, _, _⟩ := info_parts info5
        clear hps hpl hp256 HB4
        go_upto_region 30 with (first
          | (refine wpList_slice_all rfl 89 (.tmp 10) rfl b0 rfl 32 5 Tryd.underlying89 i5 hi5 (by decide) ?_; simp only [Act.put, List.setIfInBounds_toArray, List.set_cons_succ, List.set_cons_zero])
          | (with_reducible refine wpList_copy_splice rfl (.tmp 101) (.tmp 102) 46 46 rfl 5 Tryd.underlying46 size5 (some ⟨b0, 0, none⟩) (some ⟨gp, 0, none⟩) 32 32 q q rfl rfl b0 0 (u8s (List.replicate 32 0)) 89 HZL.out (u8s ps) ?_ ?_ ?_ ?_ w.heap.size w4 (Below.refl _ _) hw1 ?_))
        case refine_1 => rw [HUL.out]; exact (Nat.min_eq_left hq32).symm
        case refine_2 => exact fun _ => HCE.out
        case refine_3 => rw [HUL.out]; simp [u8s]; omega
        case refine_4 => exact u8s_one _
        intro w5 hR5 hB5
        have HB5 := hide (show w5.heap[b0]? = some (.cells (octs (bitAt ps)).toArray 89 (0, 0)) from by rw [← HSPL.out]; exact hR5.out)
        have HV5 := hide (HV4.out.high hB5 hSw hgw hpw HL.out)
        clear hR5 hB5 HV4 HGP HCE HZL HSPL
        by_cases hall : ∀ i, i < 256 → (bitAt ps i = true → i < W)
        · have HLY := hide (HLAY.out w5 4 256 (bitAt ps) HV5.out.set (Nat.le_refl _) hall (fun h => absurd h (by omega)))
          have HALL := hide hall
          clear hall
          go_wp2_with (refine wpList_load_row rfl 89 (.tmp 10) rfl b0 rfl 89 _ (0, 0) _ HB5.out Tryd.underlying89 rfl size89 ?_)
          refine HLY.out.mono ?_
          rintro e w6 ⟨ho, hf⟩
          have HO := hide ho
          have HFF := hide hf
          have ho' := ho
          unfold LayOut at ho'
          rw [if_pos rfl, HW.out] at ho'
          obtain ⟨rfl, _⟩ := ho'
          clear ho hf
          go_wp2_with fail
          go_ret
          refine HFIN.out w5 (at_ + 1 + q) (bitAt ps) (bitAt ps) (r1.drop q) HV5.out (fun _ _ => rfl) (by omega) (by rw [← List.drop_drop, HD1.out]) _ _ HO.out HFF.out (fun ht => ?_) (fun ht f r h => ?_)
          · rw [HDR.out, HR1.out]
            have := Took.bits (w := W) ps ((ps ++ r1.drop q).drop q) (by rw [HPL.out, HQ.out]) HP256.out (fun i h1 h2 => by
              cases hb : bitAt ps i with
              | false => rfl
              | true => have := HALL.out i h2 hb; omega) ht
            rw [List.drop_left' HPL.out] at this ⊢
            exact this
          · rw [HDR.out] at h
            rcases took_inv h with e | e | ⟨k, qs, e, _⟩ | ⟨k, qs, e, _⟩ | ⟨qs, e, e2, _, e3⟩
            all_goals
              simp only [List.cons.injEq] at e
              first
                | omega
                | (obtain ⟨_, e5⟩ := e
                   rw [HR1.out] at e5
                   have h6 : ps = qs := (List.append_inj e5 (by rw [HPL.out, e2, HQ.out])).1
                   subst h6
                   exact ht e3)
        · obtain ⟨D, hD, hbad, hlow⟩ := first_diff (fun i => bitAt ps i = true → i < W) 256 hall
          have hDb : bitAt ps D = true ∧ W ≤ D := by
            cases hb : bitAt ps D with
            | false => exact (hbad (fun h => by rw [hb] at h; cases h)).elim
            | true => exact ⟨rfl, by
                by_cases h : W ≤ D
                · exact h
                · exact (hbad (fun _ => by omega)).elim⟩
          have HLY := hide (HLAY.out w5 4 D (bitAt ps) HV5.out.set (by omega) hlow (fun _ => hDb))
          have HNO := hide (show ∀ f r, ¬ Took W (bs.drop at_) f r from fun f r h => by
            rw [HDR.out] at h
            rcases took_inv h with e | e | ⟨k, qs, e, _⟩ | ⟨k, qs, e, _⟩ | ⟨qs, e, e2, e3, _⟩
            all_goals
              simp only [List.cons.injEq] at e
              first
                | omega
                | (obtain ⟨_, e5⟩ := e
                   rw [HR1.out] at e5
                   have h6 : ps = qs := (List.append_inj e5 (by rw [HPL.out, e2, HQ.out])).1
                   subst h6
                   have := e3 D hDb.2 hD
                   rw [hDb.1] at this
                   cases this))
          have hD256 : ¬ D = 256 := by omega
          clear hall hbad hlow hDb
          go_wp2_with (refine wpList_load_row rfl 89 (.tmp 10) rfl b0 rfl 89 _ (0, 0) _ HB5.out Tryd.underlying89 rfl size89 ?_)
          refine HLY.out.mono ?_
          rintro e w6 ⟨ho, hf⟩
          unfold LayOut at ho
          rw [if_neg hD256] at ho
          subst ho
          have HFF := hide hf
          clear hf
          go_wp2_with fail
          go_ret
          exact ⟨.inr ⟨HNO.out, rfl⟩, foot_lay HV5.out.foot HFF.out⟩
    · have hno : ∀ f r, ¬ Took W (bs.drop at_) f r := fun f r h => by
        rw [HDR.out] at h
        rcases took_inv h with e | e | ⟨k, ps, e, _⟩ | ⟨k, ps, e, _⟩ | ⟨ps, e, _⟩ <;> (simp only [List.cons.injEq] at e; omega)
      have HNO := hide hno
      have e0 : ((t : Int) == 0) = false := by simp; omega
      have e1 : ((t : Int) == 1) = false := by simp; omega
      have e2 : ((t : Int) == 2) = false := by simp; omega
      have e3 : ((t : Int) == 3) = false := by simp; omega
      have e4 : ((t : Int) == 4) = false := by simp; omega
      clear hno h0 h1 h2' h3 h4 HB0
      go_wp2_with fail
      go_ret
      exact ⟨.inr ⟨HNO.out, rfl⟩, HV2.out.foot⟩
end Go.Proofs.YtmkbbekeimnajaaDoor
