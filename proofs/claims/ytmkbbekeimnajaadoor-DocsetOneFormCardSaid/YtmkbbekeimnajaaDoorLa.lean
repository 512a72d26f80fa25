/- a block's members go into the set -/
import Derived.Test.YtmkbbekeimnajaaDoorRi
import Derived.Test.YtmkbbekeimnajaaDoorPl2
import Derived.Test.YtmkbbekeimnajaaDoorFl
namespace Go.Proofs.YtmkbbekeimnajaaDoor
open Go.RowKit Ds
def lay (m : Nat → Bool) (j : Nat) (f : Nat → Bool) (i : Nat) : Nat → Bool := fun k => m k || (decide (256 * j ≤ k) && decide (k < 256 * j + i) && f (k - 256 * j))
theorem lay_zero (m : Nat → Bool) (j : Nat) (f : Nat → Bool) : lay m j f 0 = m := by
  funext k
  unfold lay
  by_cases h : 256 * j ≤ k
  · rw [decide_eq_false (show ¬ k < 256 * j + 0 by omega)]; simp
  · rw [decide_eq_false h]; simp
theorem lay_no {m : Nat → Bool} {j : Nat} {f : Nat → Bool} {i : Nat} (h : f i = false) : lay m j f (i + 1) = lay m j f i := by
  funext k
  unfold lay
  by_cases e : k = 256 * j + i
  · subst e; rw [Nat.add_sub_cancel_left, h]; simp
  · have : decide (k < 256 * j + (i + 1)) = decide (k < 256 * j + i) := by
      by_cases h1 : k < 256 * j + i
      · rw [decide_eq_true h1, decide_eq_true (by omega)]
      · rw [decide_eq_false h1, decide_eq_false (by omega)]
    rw [this]
theorem lay_yes {m : Nat → Bool} {j : Nat} {f : Nat → Bool} {i : Nat} (h : f i = true) : put (lay m j f i) (256 * j + i) true = lay m j f (i + 1) := by
  funext k
  unfold put lay
  by_cases e : k = 256 * j + i
  · subst e; rw [if_pos rfl, Nat.add_sub_cancel_left, h, decide_eq_true (by omega), decide_eq_true (by omega)]; simp
  · rw [if_neg e]
    have : decide (k < 256 * j + (i + 1)) = decide (k < 256 * j + i) := by
      by_cases h1 : k < 256 * j + i
      · rw [decide_eq_true h1, decide_eq_true (by omega)]
      · rw [decide_eq_false h1, decide_eq_false (by omega)]
    rw [this]
theorem lay_new {m : Nat → Bool} {j i : Nat} {f : Nat → Bool} (hm : ∀ k, 256 * j ≤ k → m k = false) : lay m j f i (256 * j + i) = false := by
  unfold lay
  rw [hm _ (by omega), decide_eq_false (show ¬ 256 * j + i < 256 * j + i by omega)]
  simp
theorem lay_all {m : Nat → Bool} {n j : Nat} {f : Nat → Bool} (hm : ∀ k, 256 * j ≤ k → m k = false) (hf : ∀ i, i < 256 → f i = true → i < wid n j) : lay m j f 256 = setB m n j f := by
  funext k
  unfold lay setB
  by_cases h1 : 256 * j ≤ k
  · rw [decide_eq_true h1, hm k h1]
    by_cases h2 : k < 256 * j + wid n j
    · have := wid_le n j
      rw [decide_eq_true (by omega), if_pos ⟨h1, h2⟩]; simp
    · rw [if_neg (fun h => h2 h.2)]
      by_cases h3 : k < 256 * j + 256
      · have : f (k - 256 * j) = false := by
          cases h : f (k - 256 * j) with
          | false => rfl
          | true => have := hf _ (by omega) h; omega
        rw [this]; simp
      · rw [decide_eq_false h3]; simp
  · rw [decide_eq_false h1, if_neg (fun h => h1 h.1)]; simp
theorem nat_beq (a b : Nat) : ((a : Int) == (b : Int)) = decide (a = b) := by
  by_cases h : a = b
  · subst h; simp
  · rw [decide_eq_false h]; simp; omega
theorem cnt_hi {f : Nat → Bool} {W : Nat} (hW : W ≤ 256) (h : ∀ i, i < 256 → f i = true → i < W) : cnt f 256 = cnt f W := by
  obtain ⟨d, hd⟩ : ∃ d, 256 = W + d := ⟨256 - W, by omega⟩
  rw [hd, cnt_add, cnt_congr (k := fun _ => false) (n := d) (fun i hi => by
    cases hf : f (W + i) with
    | false => rfl
    | true => have := h _ (by omega) hf; omega), cnt_none, Nat.add_zero]
def LayOut (w' : World) (S g n : Nat) (m : Nat → Bool) (j : Nat) (f : Nat → Bool) (t D : Nat) (e : Ending) : Prop :=
  if D = 256 then e = .returned (.bool (decide (tagOf (wid n j) (cnt f (wid n j)) = t))) ∧ SetAt w' S g (nw n) n (setB m n j f) else e = .returned (.bool false)
set_option maxRecDepth 100000 in
set_option maxHeartbeats 4000000 in
theorem lay_any (w : World) {S g n : Nat} {m : Nat → Bool} (h : SetAt w S g (nw n) n m) (j t D : Nat) (f : Nat → Bool) (hj : 256 * j < n) (hm : ∀ k, 256 * j ≤ k → m k = false) (hD : D ≤ 256) (hgood : ∀ i, i < D → f i = true → i < wid n j) (hend : D < 256 → f D = true ∧ wid n j ≤ D) :
    Calls Tryd.prog 87 #[.pointer (some ⟨S, 0, none⟩), .agg (octs f).toArray, .int .i64 (wid n j : Nat), .int .i64 (j : Nat), .int .u8 (t : Nat)] w fun e w' => LayOut w' S g n m j f t D e ∧ Foot w w' (fun k => k = S ∨ k = g) := by
  have hsm := h.small
  have HS := hide h
  have HM := hide hm
  have HG := hide hgood
  have HE := hide hend
  obtain ⟨W, hW⟩ : ∃ W, wid n j = W := ⟨_, rfl⟩
  have hW256 : W ≤ 256 := by rw [← hW]; exact wid_le n j
  have hWn : 256 * j + W ≤ n := by rw [← hW]; unfold wid; omega
  have HWD := hide hW
  have hSg := h.ne
  have hSl := heap_lt h.hd
  have hgl : g < w.heap.size := by obtain ⟨cur, h, _⟩ := h.ws; exact heap_lt h
  have HH := hide (Half.of h)
  rw [hW]
  clear h hm hgood hend hW
  have hj4 : j ≤ 4096 := by omega
  go_enter Tryd.func87, Tryd.ntmps87
  go_upto_region 1 with (fail)
  have hA : (w.alloc (.cells (octs f).toArray 89)).heap[w.heap.size]? = some (.cells (octs f).toArray 89 (0, 0)) := heap_new rfl _
  have HA := hide hA
  have HF := hide ((Foot.refl w (fun k => k = S ∨ k = g)).keep ((Below.refl w.heap.size w).alloc (Nat.le_refl _) (.cells (octs f).toArray 89)))
  have HH1 := hide (HH.out.keep ((Below.refl w.heap.size w).alloc (Nat.le_refl _) (.cells (octs f).toArray 89)))
  clear hA
  generalize w.alloc (.cells (octs f).toArray 89) = w1 at *
  go_wp2_with fail
  go_loopw [11, 13] (fun c k wr => ∃ i : Nat, k = .int .i64 (i : Nat) ∧ c = .int .i64 (cnt f i : Nat) ∧ i ≤ D ∧ Half wr S g n (cnt m n) (wds (lay m j f i) (nw n)) ∧ wr.heap[w.heap.size]? = some (.cells (octs f).toArray 89 (0, 0)) ∧ cnt (lay m j f i) n = cnt m n + cnt f i ∧ Foot w wr (fun k => k = S ∨ k = g)) (fun _ k _ => 256 - (intOf k).toNat)
  case atStart => exact ⟨0, rfl, rfl, Nat.zero_le _, by rw [lay_zero]; exact HH1.out, HA.out, by rw [lay_zero]; rfl, HF.out⟩
  case round =>
    obtain ⟨i, rfl, rfl, hi, hh, ha, hcc, hf⟩ := hrel
    have HHr := hide hh
    have HAr := hide ha
    have HCC := hide hcc
    have HFr := hide hf
    clear hh ha hcc hf HA HF HH1
    by_cases hlt : i < 256
    · have hi1 : (i : Int) < 256 := by omega
      obtain ⟨q, hq⟩ : ∃ q, i / 8 = q := ⟨_, rfl⟩
      obtain ⟨r, hr⟩ : ∃ r, i % 8 = r := ⟨_, rfl⟩
      have hqi : (i : Int) / 8 = (q : Int) := by omega
      have hri : (i : Int) % 8 = (r : Int) := by omega
      have hq32 : q < 32 := by omega
      have hr8 : r < 8 := by omega
      have hA := has_bit8 f i
      rw [hq, hr] at hA
      have hcc : wr.cell? ⟨w.heap.size, q, none⟩ = some (.int .u8 (oct f q : Nat)) := by
        rw [cell_at HAr.out]
        have := octs_get f hq32
        simpa using this
      have hcf : cnt f i ≤ i := cnt_le f i
      clear hq hr
      cases hfi : f i with
      | false =>
        rw [hfi, if_neg (by decide)] at hA
        have HLN := hide (lay_no (m := m) (j := j) hfi)
        have HCN := hide (show cnt f (i + 1) = cnt f i by rw [cnt_succ, hfi]; simp)
        have hiD : i + 1 ≤ D := by
          by_cases h : i < D
          · omega
          · obtain rfl : i = D := by omega
            have := (HE.out hlt).1
            rw [hfi] at this; cases this
        clear hfi
        go_wp2_with fail
        exact ⟨⟨i + 1, vi (by omega), by rw [HCN.out], hiD, by rw [HLN.out]; exact HHr.out, HAr.out, by rw [HLN.out, HCN.out]; exact HCC.out, HFr.out⟩, by simp only [intOf]; omega⟩
      | true =>
        rw [hfi, if_pos rfl] at hA
        by_cases hiD : i < D
        · have hiW : i < W := by rw [← HWD.out]; exact HG.out i hiD hfi
          have hWi : ¬ (W : Int) ≤ (i : Int) := by omega
          obtain ⟨y, hy⟩ : ∃ y, 256 * j + i = y := ⟨_, rfl⟩
          have hyn : y < n := by omega
          have hyi : 256 * (j : Int) + (i : Int) = (y : Int) := by omega
          have HLY := hide (lay_yes (m := m) (j := j) hfi)
          rw [hy] at HLY
          have hnew := lay_new (i := i) (f := f) HM.out
          rw [hy] at hnew
          have hput := cnt_put (lay m j f i) y true n
          rw [hnew, HLY.out] at hput
          simp [hyn] at hput
          have HCN := hide (show cnt f (i + 1) = cnt f i + 1 by rw [cnt_succ, hfi]; simp)
          have HC2 := hide (show cnt (lay m j f (i + 1)) n = cnt m n + cnt f (i + 1) by have := HCC.out; have := HCN.out; omega)
          obtain ⟨q2, hq2⟩ : ∃ q2, y / 64 = q2 := ⟨_, rfl⟩
          obtain ⟨r2, hr2⟩ : ∃ r2, y % 64 = r2 := ⟨_, rfl⟩
          have hqn : q2 < nw n := by unfold nw; omega
          have hr64 : r2 < 64 := by omega
          have hyq : (y : Int) / 64 = (q2 : Int) := by omega
          have hyr : (y : Int) % 64 = (r2 : Int) := by omega
          have htq : (y : Int).tdiv 64 = (q2 : Int) := by rw [Int.tdiv_eq_ediv_of_nonneg (by omega)]; omega
          have htr : (y : Int).tmod 64 = (r2 : Int) := by rw [Int.tmod_eq_emod_of_nonneg (by omega)]; omega
          have hwj : IntKind.i64.wrap (256 * (j : Int)) = 256 * (j : Int) := by rw [IntKind.wrap_i64]; omega
          have hwy : IntKind.i64.wrap (y : Int) = (y : Int) := by rw [IntKind.wrap_i64]; omega
          have hwq : IntKind.i64.wrap (q2 : Int) = (q2 : Int) := by rw [IntKind.wrap_i64]; omega
          have hwc : IntKind.i64.wrap ((cnt f i : Int) + 1) = (cnt f i : Int) + 1 := by rw [IntKind.wrap_i64]; omega
          have hO := or_bit (lay m j f i) y
          rw [hq2, hr2, HLY.out] at hO
          obtain ⟨c0, c1, c2⟩ := cells3 HHr.out.hd
          have hwc2 := HHr.out.cell (wds_get (lay m j f i) hqn)
          have hw0 := hwc2.1
          have hw1 := hwc2.2
          have HW2 := hide (show Half ((wr.setCell ⟨g, q2, none⟩ (.int .u64 (word (lay m j f (i + 1)) q2 : Nat))).drew) S g n (cnt m n) (wds (lay m j f (i + 1)) (nw n)) from by
            have h := wds_put (lay m j f i) y (nw n) true
            rw [hq2, HLY.out] at h
            rw [← h]
            exact (HHr.out.word q2 _).keep (below_drewN (Below.refl _ _) 1))
          have HF2 := hide (show Foot w ((wr.setCell ⟨g, q2, none⟩ (.int .u64 (word (lay m j f (i + 1)) q2 : Nat))).drew) (fun k => k = S ∨ k = g) from (HFr.out.setCell _ _ (.inl (.inr rfl))).drew)
          have HA2 := hide (show ((wr.setCell ⟨g, q2, none⟩ (.int .u64 (word (lay m j f (i + 1)) q2 : Nat))).drew).heap[w.heap.size]? = some (.cells (octs f).toArray 89 (0, 0)) from heap_else HAr.out (by omega) _)
          have hnw := hqn
          obtain ⟨nwn, hnwn⟩ : ∃ k, nw n = k := ⟨_, rfl⟩
          rw [hnwn] at hnw c2
          have hnw16 : nwn ≤ 16384 := by rw [← hnwn]; unfold nw; omega
          clear hfi hnew hput hq2 hr2 hqn hwc2 hnwn hy
          go_wp2_with fail
          refine wp_region_still_tail 19 (by kernel_rfl) (by kernel_rfl) ?_
          simp only [List.take_succ_cons, List.take_zero, List.drop_succ_cons, List.drop_zero]
          repeat still_step
          refine wpStill_nil ?_
          go_wp2_with fail
          exact ⟨⟨i + 1, vi (by omega), by rw [HCN.out]; exact vi (by omega), hiD, HW2.out, HA2.out, HC2.out, HF2.out⟩, by simp only [intOf]; omega⟩
        · obtain rfl : i = D := by omega
          have hWi : (W : Int) ≤ (i : Int) := by have := (HE.out hlt).2; rw [HWD.out] at this; omega
          clear hfi
          go_wp2_with fail
          go_ret
          refine ⟨?_, HFr.out⟩
          unfold LayOut
          rw [if_neg (by omega)]
          rfl
    · obtain rfl : D = 256 := by omega
      obtain rfl : i = 256 := by omega
      have hset := lay_all (n := n) HM.out (fun i hi hfi => HG.out i hi hfi)
      have hchi := cnt_hi (W := W) hW256 (fun i hi hfi => by rw [← HWD.out]; exact HG.out i hi hfi)
      have hcle := cnt_le f W
      have hccs := HCC.out
      have hmn := cnt_le m n
      have hHH := HHr.out
      rw [hset, hchi] at hccs
      rw [hset] at hHH
      rw [hchi]
      obtain ⟨cf, hcf⟩ : ∃ cf, cnt f W = cf := ⟨_, rfl⟩
      obtain ⟨cm, hcm⟩ : ∃ cm, cnt m n = cm := ⟨_, rfl⟩
      rw [hcf, hcm] at hccs
      rw [hcf] at hcle ⊢
      rw [hcm] at hHH hmn
      have HCF := hide hcf
      have HX := hide hHH
      have HCS := hide hccs
      obtain ⟨c0, c1, c2⟩ := cells3 hHH.hd
      have hfc := free_at hHH.hd 1
      have hsum : IntKind.i64.wrap ((cm : Int) + (cf : Int)) = ((cnt (setB m n j f) n : Nat) : Int) := by rw [IntKind.wrap_i64]; omega
      have HFIN := hide (show SetAt (wr.setCell ⟨S, 1, none⟩ (.int .i64 (cnt (setB m n j f) n : Nat))) S g (nw n) n (setB m n j f) from
        (hHH.count (cnt (setB m n j f) n)).set hsm (fun k hk => by
          unfold setB
          rw [if_neg (by unfold wid; omega)]
          exact HM.out k (by omega)))
      have HFF := hide ((HFr.out.setCell ⟨S, 1, none⟩ (.int .i64 (cnt (setB m n j f) n : Nat)) (.inl (.inl rfl))))
      have HTG := hide (fun w => tag_any w W cf hW256 hcle)
      clear hset hchi hccs hHH hcf hcm
      go_wp2_with fail
      refine (HTG.out _).mono ?_
      rintro e wz ⟨rfl, rfl⟩
      go_wp2_with fail
      go_ret
      refine ⟨?_, HFF.out⟩
      unfold LayOut
      rw [if_pos rfl, HWD.out, HCF.out]
      refine ⟨?_, HFIN.out⟩
      rw [← nat_beq]
      rfl
end Go.Proofs.YtmkbbekeimnajaaDoor
