/- texts of this proof, one behind the other: WCanon Flp Sf Pw Pt -/
import Derived.Test.YtmkbbekeimnajaaDoorMPlays0
import Derived.Test.YtmkbbekeimnajaaDoorMPlays1
import Derived.Test.YtmkbbekeimnajaaDoorMPlays2
import Derived.Test.YtmkbbekeimnajaaDoorMPlays3
import Derived.Test.YtmkbbekeimnajaaDoorMPlays4
import Derived.Test.YtmkbbekeimnajaaDoorMPlays5
import Derived.Test.YtmkbbekeimnajaaDoorMPlays6
import Derived.Test.YtmkbbekeimnajaaDoorMPlays7
import Derived.Test.YtmkbbekeimnajaaDoorMPlays8
import Derived.Test.YtmkbbekeimnajaaDoorMPlays9
import Derived.Test.YtmkbbekeimnajaaDoorMPlays10
import Derived.Test.YtmkbbekeimnajaaDoorMPlays11
import Derived.Test.YtmkbbekeimnajaaDoorMPlays12
import Derived.Test.YtmkbbekeimnajaaDoorMPlays13
import Derived.Test.YtmkbbekeimnajaaDoorMPlays14
import Derived.Test.YtmkbbekeimnajaaDoorMPlays15
import Derived.Deep.RegionHeldLaw
/-! WCanon: the walk of DocsetCanon -/
namespace Go.Proofs.YtmkbbekeimnajaaDoor
open Go.RowKit Ds
def addI (n : Nat) (m : Nat → Bool) (z : Int) : Nat → Bool := fun k => m k || (decide (k < n) && decide ((k : Int) = z))
def remI (m : Nat → Bool) (z : Int) : Nat → Bool := fun k => m k && !decide ((k : Int) = z)
theorem addI_in {n : Nat} {m : Nat → Bool} {j : Nat} (hj : j < n) : addI n m (j : Int) = put m j true := by
  funext k
  unfold addI put
  by_cases e : k = j
  · subst e; rw [if_pos rfl, decide_eq_true hj]; simp
  · rw [if_neg e, decide_eq_false (show ¬ (k : Int) = (j : Int) by omega)]; simp
theorem addI_out {n : Nat} {m : Nat → Bool} {z : Int} (hz : z < 0 ∨ n ≤ z) : addI n m z = m := by
  funext k
  unfold addI
  by_cases h : k < n
  · rw [decide_eq_false (show ¬ (k : Int) = z by omega)]; simp
  · rw [decide_eq_false h]; simp
theorem remI_in {m : Nat → Bool} {j : Nat} : remI m (j : Int) = put m j false := by
  funext k
  unfold remI put
  by_cases e : k = j
  · subst e; rw [if_pos rfl]; simp
  · rw [if_neg e, decide_eq_false (show ¬ (k : Int) = (j : Int) by omega)]; simp
theorem remI_out {n : Nat} {m : Nat → Bool} {z : Int} (hm : ∀ i, n ≤ i → m i = false) (hz : z < 0 ∨ n ≤ z) : remI m z = m := by
  funext k
  unfold remI
  by_cases h : k < n
  · rw [decide_eq_false (show ¬ (k : Int) = z by omega)]; simp
  · rw [hm k (by omega)]; rfl
theorem add_z (w : World) {S g cap n : Nat} {m : Nat → Bool} (h : SetAt w S g cap n m) (z : Int) (a : Addr) (hE : ErrAt w 0 a) :
    Calls Tryd.prog 16 #[.pointer (some ⟨S, 0, none⟩), .int .i64 z] w fun e w' => (∃ v, e = .returned v) ∧ SetAt w' S g cap n (addI n m z) ∧ Foot w w' (fun k => k = S ∨ k = g) := by
  by_cases hz : z < 0 ∨ n ≤ z
  · rw [addI_out hz]
    exact (add_out w h z hz a hE).mono fun e w' ⟨he, q, hq⟩ => ⟨⟨_, he⟩, by rw [hq]; exact h.keep (below_drewN (Below.refl _ _) q), by rw [hq]; exact (Foot.refl w _).drewN q⟩
  · obtain ⟨j, rfl⟩ := Int.eq_ofNat_of_zero_le (show 0 ≤ z by omega)
    rw [addI_in (by omega)]
    by_cases hm : m j = true
    · rw [put_same hm]
      exact (add_old w h j (by omega) hm).mono fun e w' ⟨he, hw⟩ => by subst hw; exact ⟨⟨_, he⟩, h, Foot.refl w _⟩
    · exact (add_new w h j (by omega) (by simpa using hm)).mono fun e w' ⟨he, hs, hf⟩ => ⟨⟨_, he⟩, hs, hf⟩
theorem rem_z (w : World) {S g cap n : Nat} {m : Nat → Bool} (h : SetAt w S g cap n m) (z : Int) (a : Addr) (hE : ErrAt w 0 a) :
    Calls Tryd.prog 15 #[.pointer (some ⟨S, 0, none⟩), .int .i64 z] w fun e w' => (∃ v, e = .returned v) ∧ SetAt w' S g cap n (remI m z) ∧ Foot w w' (fun k => k = S ∨ k = g) := by
  by_cases hz : z < 0 ∨ n ≤ z
  · rw [remI_out h.off hz]
    exact (rem_out w h z hz a hE).mono fun e w' ⟨he, q, hq⟩ => ⟨⟨_, he⟩, by rw [hq]; exact h.keep (below_drewN (Below.refl _ _) q), by rw [hq]; exact (Foot.refl w _).drewN q⟩
  · obtain ⟨j, rfl⟩ := Int.eq_ofNat_of_zero_le (show 0 ≤ z by omega)
    rw [remI_in]
    by_cases hm : m j = true
    · exact (rem_new w h j (by omega) hm).mono fun e w' ⟨he, hs, hf⟩ => ⟨⟨_, he⟩, hs, hf⟩
    · rw [put_same (by simpa using hm)]
      exact (rem_old w h j (by omega) (by simpa using hm)).mono fun e w' ⟨he, hw⟩ => by subst hw; exact ⟨⟨_, he⟩, h, Foot.refl w _⟩
/-- the set over the three loops -/
def c1F (n : Nat) (gs : List Int) (i : Nat) : Nat → Bool := fun k => decide (k < n) && decide ((k : Int) ∈ gs.take i)
def c2F (n : Nat) (gs zs : List Int) (j : Nat) : Nat → Bool := fun k => (decide (k < n) && decide ((k : Int) ∈ gs)) || decide ((k : Int) ∈ zs.drop j)
def c3F (n : Nat) (gs zs : List Int) (i : Nat) : Nat → Bool := fun k => ((decide (k < n) && decide ((k : Int) ∈ gs)) || decide ((k : Int) ∈ zs)) && !(decide ((k : Int) ∈ gs.take i) && !decide ((k : Int) ∈ zs))
theorem c1_zero (n : Nat) (gs : List Int) : c1F n gs 0 = fun _ => false := by funext k; simp [c1F]
theorem take_snoc {gs : List Int} {i : Nat} {z : Int} (h : gs[i]? = some z) : gs.take (i + 1) = gs.take i ++ [z] := by rw [List.take_add_one, h]; rfl
theorem c1_step {n : Nat} {gs : List Int} {i : Nat} {z : Int} (h : gs[i]? = some z) : addI n (c1F n gs i) z = c1F n gs (i + 1) := by
  funext k
  unfold addI c1F
  rw [take_snoc h]
  simp only [List.mem_append, List.mem_singleton]
  by_cases a : k < n <;> by_cases b : (k : Int) ∈ gs.take i <;> by_cases c : (k : Int) = z <;> simp [a, b, c]
theorem c1_all (n : Nat) (gs zs : List Int) : c1F n gs gs.length = c2F n gs zs zs.length := by
  funext k
  unfold c1F c2F
  rw [List.take_length, List.drop_length]
  simp
theorem c2_step {n : Nat} {gs zs : List Int} {j : Nat} {z : Int} (h : zs[j]? = some z) (hz : 0 ≤ z ∧ z < n) : addI n (c2F n gs zs (j + 1)) z = c2F n gs zs j := by
  funext k
  unfold addI c2F
  have hd : zs.drop j = z :: zs.drop (j + 1) := by
    obtain ⟨hj, he⟩ := List.getElem?_eq_some_iff.1 h
    rw [List.drop_eq_getElem_cons hj, he]
  rw [hd]
  simp only [List.mem_cons]
  by_cases c : (k : Int) = z
  · have a : k < n := by omega
    simp [a, c]
  · simp [c]
theorem c2_all (n : Nat) (gs zs : List Int) : c2F n gs zs 0 = c3F n gs zs 0 := by
  funext k
  unfold c2F c3F
  simp
theorem c3_keep {n : Nat} {gs zs : List Int} {i : Nat} {z : Int} (h : gs[i]? = some z) (hz : z ∈ zs) : c3F n gs zs (i + 1) = c3F n gs zs i := by
  funext k
  unfold c3F
  rw [take_snoc h]
  simp only [List.mem_append, List.mem_singleton]
  by_cases c : (k : Int) = z
  · simp [c, hz]
  · simp [c]
theorem c3_step {n : Nat} {gs zs : List Int} {i : Nat} {z : Int} (h : gs[i]? = some z) (hz : z ∉ zs) : remI (c3F n gs zs i) z = c3F n gs zs (i + 1) := by
  funext k
  unfold remI c3F
  rw [take_snoc h]
  simp only [List.mem_append, List.mem_singleton]
  by_cases c : (k : Int) = z
  · simp [c, hz]
  · simp [c]
theorem c3_all (n : Nat) (gs zs : List Int) : c3F n gs zs gs.length = mOf zs := by
  funext k
  unfold c3F mOf
  rw [List.take_length]
  by_cases a : (k : Int) ∈ zs <;> by_cases b : (k : Int) ∈ gs <;> simp [a, b]
theorem uv_len3 {n : Nat} (h : n < 2097152) : (Uv.uv n).length ≤ 3 := by
  unfold Uv.uv
  by_cases h1 : n < 128
  · rw [Uv.uvf_small _ _ h1]; simp
  · rw [Uv.uvf_great _ _ (by omega)]
    by_cases h2 : n / 128 < 128
    · rw [Uv.uvf_small _ _ h2]; simp
    · rw [Uv.uvf_great _ _ (by omega), Uv.uvf_small _ _ (by omega)]; simp
theorem encS_short {n : Nat} {m : Nat → Bool} (hn : n ≤ 1048576) : (encS n m).length ≤ 3 + (n + 255) / 256 * 33 := by
  have h1 := uv_len3 (n := n) (by omega)
  have h2 := (body_len n m (nb n)).2
  unfold encS
  rw [List.length_append]
  unfold nb at *
  omega
theorem encS_is {n k : Nat} {m f : Nat → Bool} (hn : n ≤ 1048576) (hk : k ≤ 1048576) (h : encS n m = encS k f) (o1 : ∀ i, n ≤ i → m i = false) (o2 : ∀ i, k ≤ i → f i = false) : n = k ∧ m = f := by
  obtain ⟨rfl, _⟩ := uv_inj hn hk h
  refine ⟨rfl, ?_⟩
  funext i
  by_cases hi : i < n
  · exact encS_inj h i hi
  · rw [o1 i (by omega), o2 i (by omega)]
structure Two (w wr : World) (S g cap S2 g2 n : Nat) (m f : Nat → Bool) : Prop where
  s : SetAt wr S g cap n m
  t : SetAt wr S2 g2 (nw n) n f
  below : Below w.heap.size w wr
theorem Two.step {w wr w' : World} {S g cap S2 g2 n : Nat} {m f f' : Nat → Bool} (h : Two w wr S g cap S2 g2 n m f) (hs : SetAt w' S2 g2 (nw n) n f') (hf : Foot wr w' (fun k => k = S2 ∨ k = g2)) (a : S ≠ S2) (b : S ≠ g2) (c : g ≠ S2) (d : g ≠ g2) (h1 : w.heap.size ≤ S2) (h2 : w.heap.size ≤ g2) : Two w w' S g cap S2 g2 n m f' :=
  ⟨h.s.apart hf a b c d, hs, h.below.trans (hf.below (fun k hk => by rcases hk with rfl | rfl <;> assumption) h.below.size)⟩
set_option maxRecDepth 100000 in
set_option maxHeartbeats 8000000 in
theorem canon_walk (w : World) (T : DeBr w) (E : Nat → Addr) (hE : Errs w E allErrs) (hg : 25 ≤ w.heap.size) (n : Int) (ao1 : Option Addr) (k1 : Nat) (zs : List Int) (h1 : Ints w (.slice ao1 zs.length k1) zs) (hl1 : zs.length ≤ 1152921504606846976)
    (ao2 : Option Addr) (k2 : Nat) (gs : List Int) (h2 : Ints w (.slice ao2 gs.length k2) gs) (hl2 : gs.length ≤ 1152921504606846976) :
    Calls Tryd.prog 8 #[.int .i64 n, .slice ao1 zs.length k1, .slice ao2 gs.length k2] w fun e w' => e = .returned (.bool true) ∧ Below w.heap.size w w' := by
  have HT := hide T
  have HE := hide hE
  have H1 := hide h1
  have H2 := hide h2
  clear T hE h1 h2
  go_enter Tryd.func8, Tryd.ntmps8
  go_wp2_with fail
  refine (fixed_any w E HE.out HT.out hg).mono ?_
  rintro e w1 ⟨rfl, hb1⟩
  have HB1 := hide hb1
  have z1 := hb1.size
  have HZ1 := hide (ints_keep H1.out hb1)
  clear hb1
  go_wp2_with fail
  refine (of_any w1 n ao1 k1 zs HZ1.out hl1 (E 0) (err_below (HE.out.cell 0 (by decide)) HB1.out (by omega)) (by omega)).mono ?_
  rintro e w2 ⟨hof, hb2⟩
  have HB2 := hide (HB1.out.trans (hb2.mono z1))
  have z2 := HB2.out.size
  clear hb2 HZ1
  rcases hof with ⟨N, S, g, cap, rfl, hN, hin, rfl, hS, hgg, hs⟩ | ⟨hno, rfl⟩
  · have HS := hide hs
    have HIN := hide hin
    have hSl := heap_lt hs.hd
    have hgl : g < w2.heap.size := by obtain ⟨cur, h, _⟩ := hs.ws; exact heap_lt h
    clear hs hin
    go_wp2_with fail
    refine (new_ok w2 N hN).mono ?_
    rintro e w3 ⟨S2, g2, rfl, hS2, hg2, ht, hb3⟩
    have HTW := hide (show Two w w3 S g cap S2 g2 N (mOf zs) (c1F N gs 0) from ⟨HS.out.keep hb3, by rw [c1_zero]; exact ht, HB2.out.trans (hb3.mono z2)⟩)
    have q1 : S ≠ S2 := by omega
    have q2 : S ≠ g2 := by omega
    have q3 : g ≠ S2 := by omega
    have q4 : g ≠ g2 := by omega
    have q5 : w.heap.size ≤ S2 := by omega
    have q6 : w.heap.size ≤ g2 := by omega
    clear ht hb3 HS HB2 HB1
    go_wp2_with fail
    go_loopw [45] (fun j wr => ∃ i : Nat, j = .int .i64 (i : Nat) ∧ i ≤ gs.length ∧ Two w wr S g cap S2 g2 N (mOf zs) (c1F N gs i)) (fun j _ => gs.length - (intOf j).toNat)
    case atStart => exact ⟨0, rfl, Nat.zero_le _, HTW.out⟩
    case round =>
      obtain ⟨i, rfl, hi, htw⟩ := hrel
      have HTr := hide htw
      clear htw HTW
      by_cases hlt : i < gs.length
      · obtain ⟨z, hz⟩ : ∃ z, gs[i]? = some z := ⟨_, List.getElem?_eq_getElem hlt⟩
        obtain ⟨ad, rfl, hcz⟩ := ints_get (ints_keep H2.out HTr.out.below) hz
        have hii : (i : Int) < (gs.length : Int) := by omega
        have HAD := hide (add_z wr HTr.out.t z (E 0) (err_below (HE.out.cell 0 (by decide)) HTr.out.below (by omega)))
        rw [c1_step hz] at HAD
        clear hz
        go_wp2_with fail
        refine HAD.out.mono ?_
        rintro e w4 ⟨⟨v4, rfl⟩, hs4, hf4⟩
        have HT4 := hide (HTr.out.step hs4 hf4 q1 q2 q3 q4 q5 q6)
        clear hs4 hf4
        go_wp2_with fail
        exact ⟨⟨i + 1, vi (by omega), by omega, HT4.out⟩, by simp only [intOf]; omega⟩
      · obtain rfl : i = gs.length := by omega
        have HT2 := hide (show Two w wr S g cap S2 g2 N (mOf zs) (c2F N gs zs zs.length) from by rw [← c1_all]; exact HTr.out)
        have hwl : IntKind.i64.wrap ((zs.length : Int) - 1) = (zs.length : Int) - 1 := by rw [IntKind.wrap_i64]; omega
        clear HTr
        go_wp2_with fail
        go_loopw [12] (fun k wr => ∃ j : Nat, k = .int .i64 ((j : Int) - 1) ∧ j ≤ zs.length ∧ Two w wr S g cap S2 g2 N (mOf zs) (c2F N gs zs j)) (fun k _ => (intOf k + 1).toNat)
        case atStart => exact ⟨zs.length, rfl, Nat.le_refl _, HT2.out⟩
        case round =>
          clear HT2
          obtain ⟨j, rfl, hj, htw⟩ := hrel
          have HTr := hide htw
          clear htw
          by_cases hj0 : 0 < j
          · obtain ⟨k, hk⟩ : ∃ k, j - 1 = k := ⟨_, rfl⟩
            have hkj : (j : Int) - 1 = (k : Int) := by omega
            rw [hkj]
            have hklt : k < zs.length := by omega
            have hki : (k : Int) < (zs.length : Int) := by omega
            have hjk : j = k + 1 := by omega
            rw [hjk] at HTr
            obtain ⟨z, hz⟩ : ∃ z, zs[k]? = some z := ⟨_, List.getElem?_eq_getElem hklt⟩
            obtain ⟨ad, rfl, hcz⟩ := ints_get (ints_keep H1.out HTr.out.below) hz
            have HAD := hide (add_z wr HTr.out.t z (E 0) (err_below (HE.out.cell 0 (by decide)) HTr.out.below (by omega)))
            rw [c2_step hz (HIN.out z (List.mem_of_getElem? hz))] at HAD
            have hwk : IntKind.i64.wrap ((k : Int) - 1) = (k : Int) - 1 := by rw [IntKind.wrap_i64]; omega
            clear hz hk hkj hjk
            go_wp2_with fail
            refine HAD.out.mono ?_
            rintro e w4 ⟨⟨v4, rfl⟩, hs4, hf4⟩
            have HT4 := hide (HTr.out.step hs4 hf4 q1 q2 q3 q4 q5 q6)
            clear hs4 hf4
            go_wp2_with fail
            exact ⟨⟨k, rfl, by omega, HT4.out⟩, by simp only [intOf]; omega⟩
          · obtain rfl : j = 0 := by omega
            rw [show (((0 : Nat) : Int) - 1) = -1 from rfl]
            have HT3 := hide (show Two w wr S g cap S2 g2 N (mOf zs) (c3F N gs zs 0) from by rw [← c2_all]; exact HTr.out)
            clear HTr
            go_wp2_with fail
            go_loopw [68] (fun k wr => ∃ i : Nat, k = .int .i64 (i : Nat) ∧ i ≤ gs.length ∧ Two w wr S g cap S2 g2 N (mOf zs) (c3F N gs zs i)) (fun k _ => gs.length - (intOf k).toNat)
            case atStart => exact ⟨0, rfl, Nat.zero_le _, HT3.out⟩
            case round =>
              clear HT3
              obtain ⟨i, rfl, hi, htw⟩ := hrel
              have HTr := hide htw
              clear htw
              by_cases hlt : i < gs.length
              · obtain ⟨z, hz⟩ : ∃ z, gs[i]? = some z := ⟨_, List.getElem?_eq_getElem hlt⟩
                obtain ⟨ad, rfl, hcz⟩ := ints_get (ints_keep H2.out HTr.out.below) hz
                have hii : (i : Int) < (gs.length : Int) := by omega
                have HCO := hide (contains_any wr ao1 zs.length k1 zs z (ints_keep H1.out HTr.out.below) rfl hl1)
                by_cases hzz : z ∈ zs
                · rw [decide_eq_true hzz] at HCO
                  have HT4 := hide (show Two w wr S g cap S2 g2 N (mOf zs) (c3F N gs zs (i + 1)) from by rw [c3_keep hz hzz]; exact HTr.out)
                  clear hz hzz
                  go_wp2_with fail
                  refine HCO.out.mono ?_
                  rintro e wz ⟨rfl, rfl⟩
                  go_wp2_with fail
                  exact ⟨⟨i + 1, vi (by omega), by omega, HT4.out⟩, by simp only [intOf]; omega⟩
                · rw [decide_eq_false hzz] at HCO
                  have HAD := hide (rem_z wr HTr.out.t z (E 0) (err_below (HE.out.cell 0 (by decide)) HTr.out.below (by omega)))
                  rw [c3_step hz hzz] at HAD
                  clear hz hzz
                  go_wp2_with fail
                  refine HCO.out.mono ?_
                  rintro e wz ⟨rfl, rfl⟩
                  go_wp2_with fail
                  refine HAD.out.mono ?_
                  rintro e w4 ⟨⟨v4, rfl⟩, hs4, hf4⟩
                  have HT4 := hide (HTr.out.step hs4 hf4 q1 q2 q3 q4 q5 q6)
                  clear hs4 hf4
                  go_wp2_with fail
                  exact ⟨⟨i + 1, vi (by omega), by omega, HT4.out⟩, by simp only [intOf]; omega⟩
              · obtain rfl : i = gs.length := by omega
                have HTF := hide (show Two w wr S g cap S2 g2 N (mOf zs) (mOf zs) from by have := HTr.out; rwa [c3_all] at this)
                have zr := HTF.out.below.size
                obtain ⟨m, hm⟩ : ∃ m, mOf zs = m := ⟨_, rfl⟩
                rw [hm] at HTF
                clear HTr hm
                go_wp2_with fail
                refine (alike_same wr HTF.out.s HTF.out.t).mono ?_
                rintro e w5 ⟨rfl, hb5⟩
                have HT5 := hide (show Two w w5 S g cap S2 g2 N m m from ⟨HTF.out.s.keep hb5, HTF.out.t.keep hb5, HTF.out.below.trans (hb5.mono zr)⟩)
                have z5 := HT5.out.below.size
                clear hb5 HTF
                go_wp2_with fail
                refine (encode_set w5 HT5.out.t).mono ?_
                rintro e w6 ⟨q7, _, rfl, hh6, hb6⟩
                have HT6 := hide (show Two w w6 S g cap S2 g2 N m m from ⟨HT5.out.s.keep hb6, HT5.out.t.keep hb6, HT5.out.below.trans (hb6.mono z5)⟩)
                have HQ6 := hide (src_encS hN hh6)
                have z6 := HT6.out.below.size
                have hel := encS_len (m := m) hN
                have HE6 := hide (HE.out.below HT6.out.below (Nat.le_refl _) (ids_lt hg))
                clear hh6 hb6 HT5
                have HDC := hide (decode_any w6 _ _ HQ6.out (by omega) E HE6.out (by omega))
                go_wp2_with fail
                refine HDC.out.mono ?_
                rintro e w7 ⟨hd, hb7⟩
                have HT7 := hide (show Two w w7 S g cap S2 g2 N m m from ⟨HT6.out.s.keep hb7, HT6.out.t.keep hb7, HT6.out.below.trans (hb7.mono z6)⟩)
                have z7 := HT7.out.below.size
                clear hb7
                unfold DecOut at hd
                rcases hd with ⟨n', m', S3, g3, hn', he, rfl, hS3, hg3, hs3⟩ | ⟨hno, rfl⟩
                · obtain ⟨rfl, rfl⟩ := encS_is hN hn' he HT6.out.s.off hs3.off
                  have HU := hide hs3
                  clear hs3 he HT6 HQ6 HDC
                  go_wp2_with fail
                  refine (alike_same w7 HU.out HT7.out.s).mono ?_
                  rintro e w8 ⟨rfl, hb8⟩
                  have HT8 := hide (show Two w w8 S g cap S2 g2 N m m from ⟨HT7.out.s.keep hb8, HT7.out.t.keep hb8, HT7.out.below.trans (hb8.mono z7)⟩)
                  have z8 := HT8.out.below.size
                  clear hb8 HT7
                  go_wp2_with fail
                  refine (encode_set w8 HT8.out.s).mono ?_
                  rintro e w9 ⟨q8, _, rfl, hh9, hb9⟩
                  have HB9 := hide (HT8.out.below.trans (hb9.mono z8))
                  have hsh := encS_short (m := m) hN
                  have hshi : ((encS N m).length : Int) ≤ 3 + ((N : Int) + 255) / 256 * 33 := by omega
                  obtain ⟨el, hel2⟩ : ∃ el, (encS N m).length = el := ⟨_, rfl⟩
                  rw [hel2] at hshi hel hsh ⊢
                  clear hh9 hb9 hel2
                  go_wp2_with fail
                  go_ret
                  exact ⟨rfl, HB9.out⟩
                · exact (hno N m hN rfl).elim
  · clear hno
    go_wp2_with fail
    go_ret
    exact ⟨rfl, HB2.out⟩
end Go.Proofs.YtmkbbekeimnajaaDoor

/-! Flp: flip (72) -/
namespace Go.Proofs.YtmkbbekeimnajaaDoor
open Go.RowKit Ds
/-- the first k numbers changed about -/
def flipM (n : Nat) (m : Nat → Bool) (k : Nat) : Nat → Bool := fun i => if i < k ∧ i < n then !m i else m i
theorem flip_zero (n : Nat) (m : Nat → Bool) : flipM n m 0 = m := by
  funext i
  unfold flipM
  rw [if_neg (by omega)]
theorem flip_succ {n k : Nat} (m : Nat → Bool) (hk : k < n) : flipM n m (k + 1) = put (flipM n m k) k (!m k) := by
  funext i
  unfold flipM put
  by_cases e : i = k
  · subst e
    rw [if_pos (by omega), if_pos rfl]
  · rw [if_neg e]
    dsimp only
    by_cases h : i < k ∧ i < n
    · rw [if_pos (by omega), if_pos h]
    · rw [if_neg (by omega), if_neg h]
theorem flip_far {n k : Nat} (m : Nat → Bool) (hk : n ≤ k) : flipM n m (k + 1) = flipM n m k := by
  funext i
  unfold flipM
  by_cases h : i < k ∧ i < n
  · rw [if_pos (by omega), if_pos h]
  · rw [if_neg (by omega), if_neg h]
theorem flip_at {n k : Nat} (m : Nat → Bool) : flipM n m k k = m k := by
  unfold flipM
  rw [if_neg (by omega)]
theorem flip_flip (n : Nat) (m : Nat → Bool) (k : Nat) : flipM n (flipM n m k) k = m := by
  funext i
  unfold flipM
  by_cases h : i < k ∧ i < n
  · rw [if_pos h, if_pos h, Bool.not_not]
  · rw [if_neg h, if_neg h]
theorem foot_comp {w w' w2 : World} {S : Nat → Prop} (h : Foot w w' S) (k : Foot w' w2 S) : Foot w w2 S :=
  ⟨k.os.trans h.os, k.tape.trans h.tape, k.output.trans h.output, Nat.le_trans h.size k.size, fun i hi hs => (k.block i (Nat.lt_of_lt_of_le hi h.size) hs).trans (h.block i hi hs)⟩
set_option maxRecDepth 100000 in
set_option maxHeartbeats 2000000 in
theorem flip_any (w : World) {S g cap n : Nat} {m : Nat → Bool} (h : SetAt w S g cap n m) (B : Nat) (hB : 0 < B) (hS : B ≤ S) (hg : B ≤ g) (hBw : B ≤ w.heap.size) (a : Addr) (hE : ErrAt w 0 a) :
    Calls Tryd.prog 72 #[.pointer (some ⟨S, 0, none⟩)] w fun e w' => (∃ v, e = .returned v) ∧ SetAt w' S g cap n (flipM n m 3) ∧ Foot w w' (fun k => k = S ∨ k = g) := by
  have HS := hide h
  have HE := hide hE
  clear h hE
  go_enter Tryd.func72, Tryd.ntmps72
  go_wp2_with fail
  go_loopw [2] (fun k wr => ∃ i : Nat, k = .int .i64 (i : Nat) ∧ i ≤ 3 ∧ SetAt wr S g cap n (flipM n m i) ∧ Foot w wr (fun k => k = S ∨ k = g)) (fun k _ => 3 - (intOf k).toNat)
  case atStart => exact ⟨0, rfl, by omega, by rw [flip_zero]; exact HS.out, Foot.refl _ _⟩
  case round =>
    obtain ⟨i, rfl, hi, hst, hf⟩ := hrel
    have HST := hide hst
    have HF := hide hf
    have hb := hf.below (B := B) (fun k hk => by rcases hk with rfl | rfl <;> assumption) hBw
    have HEr := hide (err_below HE.out hb hB)
    clear hst hf hb
    by_cases hlt : i < 3
    · have hii : (i : Int) < 3 := by omega
      by_cases hin : i < n
      · have HH := hide (has_in wr HST.out i hin)
        rw [flip_at] at HH
        cases hm : m i with
        | true =>
          rw [hm] at HH
          have HN := hide (show remI (flipM n m i) (i : Nat) = flipM n m (i + 1) from by rw [remI_in, flip_succ m hin, hm]; rfl)
          have HR := hide (rem_z wr HST.out (i : Nat) a HEr.out)
          rw [HN.out] at HR
          clear hm
          go_wp2_with fail
          refine HH.out.mono ?_
          rintro e wz ⟨rfl, rfl⟩
          go_wp2_with fail
          refine HR.out.mono ?_
          rintro e w2 ⟨⟨v, rfl⟩, hs2, hf2⟩
          have HS2 := hide hs2
          have HF2 := hide (foot_comp HF.out hf2)
          clear hs2 hf2
          go_wp2_with fail
          exact ⟨⟨i + 1, vi (by push_cast; omega), by omega, HS2.out, HF2.out⟩, by simp only [intOf]; omega⟩
        | false =>
          rw [hm] at HH
          have HN := hide (show addI n (flipM n m i) (i : Nat) = flipM n m (i + 1) from by rw [addI_in hin, flip_succ m hin, hm]; rfl)
          have HR := hide (add_z wr HST.out (i : Nat) a HEr.out)
          rw [HN.out] at HR
          clear hm
          go_wp2_with fail
          refine HH.out.mono ?_
          rintro e wz ⟨rfl, rfl⟩
          go_wp2_with fail
          refine HR.out.mono ?_
          rintro e w2 ⟨⟨v, rfl⟩, hs2, hf2⟩
          have HS2 := hide hs2
          have HF2 := hide (foot_comp HF.out hf2)
          clear hs2 hf2
          go_wp2_with fail
          exact ⟨⟨i + 1, vi (by push_cast; omega), by omega, HS2.out, HF2.out⟩, by simp only [intOf]; omega⟩
      · have HH := hide (has_out wr HST.out (i : Nat) (.inr (by omega)))
        have HN := hide (show addI n (flipM n m i) (i : Nat) = flipM n m (i + 1) from by rw [addI_out (.inr (by omega)), flip_far m (by omega)])
        have HR := hide (add_z wr HST.out (i : Nat) a HEr.out)
        rw [HN.out] at HR
        go_wp2_with fail
        refine HH.out.mono ?_
        rintro e wz ⟨rfl, rfl⟩
        go_wp2_with fail
        refine HR.out.mono ?_
        rintro e w2 ⟨⟨v, rfl⟩, hs2, hf2⟩
        have HS2 := hide hs2
        have HF2 := hide (foot_comp HF.out hf2)
        clear hs2 hf2
        go_wp2_with fail
        exact ⟨⟨i + 1, vi (by push_cast; omega), by omega, HS2.out, HF2.out⟩, by simp only [intOf]; omega⟩
    · obtain rfl : i = 3 := by omega
      go_wp2_with fail
      go_end0
      exact ⟨⟨_, rfl⟩, HST.out, HF.out⟩
end Go.Proofs.YtmkbbekeimnajaaDoor

/-! Sf: families of sets, each in blocks of its own; rows of pointers to them; rows of their forms -/
namespace Go.Proofs.YtmkbbekeimnajaaDoor
open Go.RowKit Ds
theorem SetAt.same {w w' : World} {S g cap n : Nat} {m : Nat → Bool} (h : SetAt w S g cap n m) (h1 : w'.heap[S]? = w.heap[S]?) (h2 : w'.heap[g]? = w.heap[g]?) : SetAt w' S g cap n m := by
  obtain ⟨cur, k1, k2, k3⟩ := h.ws
  exact ⟨h1.trans h.hd, ⟨cur, h2.trans k1, k2, k3⟩, h.cap, h.off, h.small⟩
theorem SetAt.lt {w : World} {S g cap n : Nat} {m : Nat → Bool} (h : SetAt w S g cap n m) : S < w.heap.size ∧ g < w.heap.size := by
  obtain ⟨cur, k1, _⟩ := h.ws
  exact ⟨heap_lt h.hd, heap_lt k1⟩
theorem SetAt.ne2 {w : World} {S g cap n S' g' cap' n' : Nat} {m m' : Nat → Bool} (h : SetAt w S g cap n m) (k : SetAt w S' g' cap' n' m') : S ≠ g' := by
  rintro rfl
  obtain ⟨cur, k1, _⟩ := k.ws
  rw [h.hd] at k1
  simp at k1
/-- what is done to a set leaves blocks of other types -/
theorem keepTy_set {w w' : World} {S g cap n : Nat} {m : Nat → Bool} (h : SetAt w S g cap n m) (hf : Foot w w' (fun k => k = S ∨ k = g)) (t : TypeId) (h1 : t ≠ 82) (h2 : t ≠ 83) : KeepTy w w' t := by
  intro k cs fr hk
  refine (hf.block k (heap_lt hk) ?_).trans hk
  rintro (rfl | rfl)
  · rw [h.hd] at hk
    simp only [Option.some.injEq, Obj.cells.injEq] at hk
    exact h1 hk.2.1.symm
  · obtain ⟨cur, k1, _⟩ := h.ws
    rw [k1] at hk
    simp only [Option.some.injEq, Obj.cells.injEq] at hk
    exact h2 hk.2.1.symm
theorem SetAt.foot {w w' : World} {S g cap n S' g' cap' n' : Nat} {m m' : Nat → Bool} (h : SetAt w S g cap n m) (k : SetAt w S' g' cap' n' m') (hf : Foot w w' (fun k => k = S' ∨ k = g')) (h1 : S ≠ S') (h2 : g ≠ g') : SetAt w' S g cap n m := by
  refine h.same (hf.block _ h.lt.1 ?_) (hf.block _ h.lt.2 ?_)
  · rintro (e | e)
    · exact h1 e
    · exact h.ne2 k e
  · rintro (e | e)
    · exact k.ne2 h e.symm
    · exact h2 e
structure SRec where
  S : Nat
  g : Nat
  cap : Nat
  m : Nat → Bool
structure SFam (w : World) (n N : Nat) (R : Nat → SRec) : Prop where
  at_ : ∀ i, i < N → SetAt w (R i).S (R i).g (R i).cap n (R i).m
  ap : ∀ i j, i < N → j < N → i ≠ j → (R i).S ≠ (R j).S ∧ (R i).g ≠ (R j).g
theorem SFam.keep {w w' : World} {n N : Nat} {R : Nat → SRec} (h : SFam w n N R) (hb : Below w.heap.size w w') : SFam w' n N R := ⟨fun i hi => (h.at_ i hi).keep hb, h.ap⟩
def snocR (R : Nat → SRec) (N : Nat) (r : SRec) : Nat → SRec := fun i => if i = N then r else R i
theorem SFam.snoc {w w' : World} {n N : Nat} {R : Nat → SRec} (h : SFam w n N R) (hb : Below w.heap.size w w') {S g cap : Nat} {m : Nat → Bool} (hS : w.heap.size ≤ S) (hg : w.heap.size ≤ g) (hs : SetAt w' S g cap n m) : SFam w' n (N + 1) (snocR R N ⟨S, g, cap, m⟩) := by
  refine ⟨fun i hi => ?_, fun i j hi hj hij => ?_⟩
  · unfold snocR
    by_cases e : i = N
    · rw [if_pos e]; exact hs
    · rw [if_neg e]; exact (h.at_ i (by omega)).keep hb
  · unfold snocR
    by_cases e : i = N
    · rw [if_pos e, if_neg (by omega)]
      have := (h.at_ j (by omega)).lt
      constructor
      · dsimp only; omega
      · dsimp only; omega
    · rw [if_neg e]
      by_cases e2 : j = N
      · rw [if_pos e2]
        have := (h.at_ i (by omega)).lt
        constructor
        · dsimp only; omega
        · dsimp only; omega
      · rw [if_neg e2]; exact h.ap i j (by omega) (by omega) hij
def setW (R : Nat → SRec) (i : Nat) (m : Nat → Bool) : Nat → SRec := fun j => if j = i then ⟨(R j).S, (R j).g, (R j).cap, m⟩ else R j
theorem setW_S (R : Nat → SRec) (i : Nat) (m : Nat → Bool) (j : Nat) : (setW R i m j).S = (R j).S ∧ (setW R i m j).g = (R j).g ∧ (setW R i m j).cap = (R j).cap := by
  unfold setW
  split
  · exact ⟨rfl, rfl, rfl⟩
  · exact ⟨rfl, rfl, rfl⟩
theorem setW_m (R : Nat → SRec) (i : Nat) (m : Nat → Bool) {j : Nat} (h : j ≠ i) : setW R i m j = R j := if_neg h
theorem setW_at (R : Nat → SRec) (i : Nat) (m : Nat → Bool) : (setW R i m i).m = m := by unfold setW; rw [if_pos rfl]
theorem SFam.set {w w' : World} {n N : Nat} {R : Nat → SRec} (h : SFam w n N R) {i : Nat} (hi : i < N) {m : Nat → Bool} (hs : SetAt w' (R i).S (R i).g (R i).cap n m) (hf : Foot w w' (fun k => k = (R i).S ∨ k = (R i).g)) : SFam w' n N (setW R i m) := by
  refine ⟨fun j hj => ?_, fun j k hj hk hjk => ?_⟩
  · by_cases e : j = i
    · subst e
      rw [setW_at, (setW_S R j m j).1, (setW_S R j m j).2.1, (setW_S R j m j).2.2]
      exact hs
    · rw [setW_m R i m e]
      have := h.ap j i hj hi e
      exact (h.at_ j hj).foot (h.at_ i hi) hf this.1 this.2
  · rw [(setW_S R i m j).1, (setW_S R i m k).1, (setW_S R i m j).2.1, (setW_S R i m k).2.1]
    exact h.ap j k hj hk hjk
/-- pointers to the sets a .. a + k - 1 -/
def ptrs (R : Nat → SRec) (a k : Nat) : List Value := (List.range k).map fun i => .pointer (some ⟨(R (a + i)).S, 0, none⟩)
theorem ptrs_len (R : Nat → SRec) (a k : Nat) : (ptrs R a k).length = k := by simp [ptrs]
theorem ptrs_get (R : Nat → SRec) (a : Nat) {k i : Nat} (h : i < k) : (ptrs R a k)[i]? = some (.pointer (some ⟨(R (a + i)).S, 0, none⟩)) := by simp [ptrs, h]
theorem ptrs_congr {R R' : Nat → SRec} {a k : Nat} (h : ∀ i, i < k → (R (a + i)).S = (R' (a + i)).S) : ptrs R a k = ptrs R' a k := List.map_congr_left fun i hi => by rw [h i (List.mem_range.1 hi)]
theorem ptrs_succ (R : Nat → SRec) (a k : Nat) : ptrs R a (k + 1) = ptrs R a k ++ [.pointer (some ⟨(R (a + k)).S, 0, none⟩)] := by simp [ptrs, List.range_succ]
theorem ptrs_one (R : Nat → SRec) (a k : Nat) : ∀ u ∈ ptrs R a k, u.oneCell' = true := by
  intro u hu
  obtain ⟨i, _, rfl⟩ := List.mem_map.1 hu
  rfl
theorem info24 : (Tryd.prog.info? 24).map (fun i => (i.zero, i.size, i.bytes)) = some (some (.pointer none), 1, 8) := by kernel_rfl
theorem info46 : (Tryd.prog.info? 46).map (fun i => (i.zero, i.size, i.bytes)) = some (some (.slice none 0 0), 1, 24) := by kernel_rfl
/-- what lies in memory while the answers are made -/
structure Apt (w : World) (B n X gr T : Nat) (m : Nat → Bool) (N : Nat) (R : Nat → SRec) (mv : Value) (wr : World) : Prop where
  fam : SFam wr n (4 + N) R
  row : wr.ownsRow (X + 1) 24 1 mv N (ptrs R 4 N)
  xs : wr.heap[X]? = some (.cells (ptrs R 0 4).toArray 24 (0, 0))
  own : ROwn wr gr n m
  box : wr.heap[T]? = some (refBox gr n)
  below : Below B w wr
  base : B ≤ wr.heap.size
  bx : B ≤ X
  ge : ∀ i, i < 4 + N → B ≤ (R i).S ∧ B ≤ (R i).g
theorem Apt.keep {w wr w' : World} {B n X gr T N : Nat} {m : Nat → Bool} {R : Nat → SRec} {mv : Value} (h : Apt w B n X gr T m N R mv wr) (hb : Below wr.heap.size wr w') : Apt w B n X gr T m N R mv w' :=
  ⟨h.fam.keep hb, row_keepTy h.row (keepTy_below hb 24), (hb.block _ (heap_lt h.xs)).trans h.xs, h.own.keep hb, (hb.block _ (heap_lt h.box)).trans h.box, h.below.trans (hb.mono h.base), Nat.le_trans h.base hb.size, h.bx, h.ge⟩
theorem ptrs_snoc {R : Nat → SRec} {N : Nat} {r : SRec} (a k : Nat) (h : a + k ≤ N) : ptrs (snocR R N r) a k = ptrs R a k := ptrs_congr fun i hi => by unfold snocR; rw [if_neg (by omega)]
theorem srcc_cells {w : World} {Y n s : Nat} {cs : List Value} {t : TypeId} (h : w.heap[Y]? = some (.cells cs.toArray t (0, 0))) (hl : cs.length = n * s) : SrcC w (.slice (some ⟨Y, 0, none⟩) n n) n s cs :=
  ⟨hl, .inr ⟨⟨Y, 0, none⟩, n, rfl, fun j u hj => by
    have e : w.cell? ((⟨Y, 0, none⟩ : Addr).add j) = w.cell? ⟨Y, j, none⟩ := by rw [Addr.add_lit, Nat.zero_add]
    rw [e, cell_at h]
    simpa using hj⟩⟩
set_option maxRecDepth 100000 in
/-- new sets are appended to the list of what was made -/
theorem apt_push {w wr w1 : World} {B n X gr T N k : Nat} {m : Nat → Bool} {R R' : Nat → SRec} {mv : Value} (h : Apt w B n X gr T m N R mv wr) (hb : Below wr.heap.size wr w1) (hf : SFam w1 n (4 + (N + k)) R') (hR : ∀ i, i < 4 + N → R' i = R i) (hN : N + k ≤ 1000) (hge : ∀ i, i < 4 + (N + k) → B ≤ (R' i).S ∧ B ≤ (R' i).g) :
    ∃ v' w', (Builtin.append_ #[119, 119] 119 #[mv, .slice (some ⟨w1.heap.size, 0, none⟩) k k]).run Tryd.prog (w1.alloc (.cells (ptrs R' (4 + N) k).toArray 24)) = .ok v' w' ∧ Apt w B n X gr T m (N + k) R' v' w' := by
  obtain ⟨i0, hi, hz0, hz1, hz2⟩ := info_parts info24
  have h1 := h.keep hb
  have hba := (Below.refl w1.heap.size w1).alloc (Nat.le_refl _) (.cells (ptrs R' (4 + N) k).toArray 24)
  have h2 := h1.keep hba
  have hX := heap_lt h.xs
  have hsz : wr.heap.size ≤ w1.heap.size := hb.size
  obtain ⟨v6, w6, k1, k2, k3, k4⟩ := run_row (w1.alloc (.cells (ptrs R' (4 + N) k).toArray 24)) (X + 1) 119 119 24 i0 _ 1 8 Tryd.underlying119 hi hz0 hz1 hz2 rfl (by decide) _ _ N k (ptrs R 4 N) (ptrs R' (4 + N) k) h2.row (srcc_cells (heap_new rfl _) (by rw [ptrs_len]; omega)) (ptrs_one _ _ _) (by unfold maxLen; omega) (by omega) (by rw [World.size_alloc]; omega)
  have hbig : Below w1.heap.size w1 (w1.alloc (.cells (ptrs R' (4 + N) k).toArray 24)) := hba
  have hg6 : ∀ q, mv.ownBlock = some q → q ≠ X := fun q hq => by have := (World.ownsRow.lt h2.row q hq).1; omega
  have hkt : ∀ t : TypeId, 24 ≠ t → KeepTy (w1.alloc (.cells (ptrs R' (4 + N) k).toArray 24)) w6 t := fun t ht => keepTy_grown k3 (notTy_row h2.row ht)
  have hf2 := hf.keep hba
  refine ⟨v6, w6, k1, ?_, ?_, ?_, hkt 4 (by decide) _ _ _ h2.own, ?_, ?_, Nat.le_trans h2.base k3.size, h.bx, hge⟩
  · refine ⟨fun i hi => ?_, hf2.ap⟩
    have hs := hf2.at_ i hi
    obtain ⟨cur, c1, _⟩ := hs.ws
    refine hs.same ?_ ?_
    · rw [hs.hd]; exact hkt 82 (by decide) _ _ _ hs.hd
    · rw [c1]; exact hkt 83 (by decide) _ _ _ c1
  · have e : ptrs R' 4 (N + k) = ptrs R 4 N ++ ptrs R' (4 + N) k := by
      unfold ptrs
      rw [List.range_add, List.map_append, List.map_map]
      congr 1
      · exact List.map_congr_left fun i hi => by rw [hR (4 + i) (by have := List.mem_range.1 hi; omega)]
      · exact List.map_congr_left fun i hi => by simp only [Function.comp, Nat.add_assoc]
    rw [e]
    exact k2
  · have e : ptrs R' 0 4 = ptrs R 0 4 := ptrs_congr fun i hi => by rw [hR (0 + i) (by omega)]
    rw [e]
    refine (k3.block X (heap_lt h2.xs) ?_).trans h2.xs
    intro e'
    exact hg6 X e'.symm rfl
  · exact hkt 54 (by decide) _ _ _ h2.box
  · refine h2.below.grown k3 h2.base (fun q hq => ?_)
    have h3 := (World.ownsRow.lt h2.row q hq).1
    have h4 := h.bx
    omega
theorem keepTy_alloc' (w : World) (o : Obj) (t : TypeId) : KeepTy w (w.alloc o) t := fun _ _ _ h => heap_old h o
theorem snocR_at (R : Nat → SRec) (N : Nat) (r : SRec) : snocR R N r N = r := if_pos rfl
theorem snocR_lt (R : Nat → SRec) {N i : Nat} (r : SRec) (h : i < N) : snocR R N r i = R i := if_neg (by omega)
set_option maxRecDepth 100000 in
theorem apt_push1 {w wr w1 : World} {B n X gr T N S g cap : Nat} {m m' : Nat → Bool} {R : Nat → SRec} {mv : Value} (h : Apt w B n X gr T m N R mv wr) (hb : Below wr.heap.size wr w1) (hS : wr.heap.size ≤ S) (hg : wr.heap.size ≤ g) (hs : SetAt w1 S g cap n m') (hN : N + 1 ≤ 1000) :
    ∃ v' w', (Builtin.append_ #[119, 119] 119 #[mv, .slice (some ⟨w1.heap.size, 0, none⟩) 1 1]).run Tryd.prog (w1.alloc (.cells #[.pointer (some ⟨S, 0, none⟩)] 24)) = .ok v' w' ∧ Apt w B n X gr T m (N + 1) (snocR R (4 + N) ⟨S, g, cap, m'⟩) v' w' := by
  have hB := h.base
  obtain ⟨v', w', k1, k2⟩ := apt_push (k := 1) h hb (h.fam.snoc hb hS hg hs) (fun i hi => snocR_lt R _ hi) hN (fun i hi => by
    by_cases e : i = 4 + N
    · subst e
      rw [snocR_at]
      exact ⟨by dsimp only; omega, by dsimp only; omega⟩
    · rw [snocR_lt R _ (by omega)]
      exact h.ge i (by omega))
  have e : ptrs (snocR R (4 + N) ⟨S, g, cap, m'⟩) (4 + N) 1 = [.pointer (some ⟨S, 0, none⟩)] := by
    rw [ptrs_succ, Nat.add_zero, snocR_at]
    rfl
  rw [e] at k1
  exact ⟨v', w', k1, k2⟩
set_option maxRecDepth 100000 in
theorem apt_push2 {w wr w0 w1 : World} {B n X gr T N S g cap S' g' cap' : Nat} {m m' m2 : Nat → Bool} {R : Nat → SRec} {mv : Value} (h : Apt w B n X gr T m N R mv wr) (hb0 : Below wr.heap.size wr w0) (hS : wr.heap.size ≤ S) (hg : wr.heap.size ≤ g) (hs : SetAt w0 S g cap n m')
    (hb : Below w0.heap.size w0 w1) (hS' : w0.heap.size ≤ S') (hg' : w0.heap.size ≤ g') (hs' : SetAt w1 S' g' cap' n m2) (hN : N + 2 ≤ 1000) :
    ∃ v' w', (Builtin.append_ #[119, 119] 119 #[mv, .slice (some ⟨w1.heap.size, 0, none⟩) 2 2]).run Tryd.prog (w1.alloc (.cells #[.pointer (some ⟨S, 0, none⟩), .pointer (some ⟨S', 0, none⟩)] 24)) = .ok v' w' ∧ Apt w B n X gr T m (N + 2) (snocR (snocR R (4 + N) ⟨S, g, cap, m'⟩) (4 + N + 1) ⟨S', g', cap', m2⟩) v' w' := by
  have hB := h.base
  have hsz := hb0.size
  obtain ⟨v', w', k1, k2⟩ := apt_push (k := 2) h (hb0.trans (hb.mono hb0.size)) ((h.fam.snoc hb0 hS hg hs).snoc hb hS' hg' hs') (fun i hi => by rw [snocR_lt _ _ (by omega), snocR_lt _ _ hi]) hN (fun i hi => by
    by_cases e : i = 4 + N + 1
    · subst e
      rw [snocR_at]
      exact ⟨by dsimp only; omega, by dsimp only; omega⟩
    · rw [snocR_lt _ _ (by omega)]
      by_cases e : i = 4 + N
      · subst e
        rw [snocR_at]
        exact ⟨by dsimp only; omega, by dsimp only; omega⟩
      · rw [snocR_lt R _ (by omega)]
        exact h.ge i (by omega))
  have e : ptrs (snocR (snocR R (4 + N) ⟨S, g, cap, m'⟩) (4 + N + 1) ⟨S', g', cap', m2⟩) (4 + N) 2 = [.pointer (some ⟨S, 0, none⟩), .pointer (some ⟨S', 0, none⟩)] := by
    have e1 : snocR (snocR R (4 + N) ⟨S, g, cap, m'⟩) (4 + N + 1) ⟨S', g', cap', m2⟩ (4 + N + 0) = ⟨S, g, cap, m'⟩ := (snocR_lt _ _ (by omega)).trans (snocR_at _ _ _)
    rw [ptrs_succ, ptrs_succ, snocR_at, e1]
    rfl
  rw [e] at k1
  exact ⟨v', w', k1, k2⟩
theorem Apt.set {w wr w' : World} {B n X gr T N i : Nat} {m m' : Nat → Bool} {R : Nat → SRec} {mv : Value} (h : Apt w B n X gr T m N R mv wr) (hi : i < 4 + N) (hs : SetAt w' (R i).S (R i).g (R i).cap n m') (hf : Foot wr w' (fun k => k = (R i).S ∨ k = (R i).g)) : Apt w B n X gr T m N (setW R i m') mv w' := by
  have hk := fun t => keepTy_set (h.fam.at_ i hi) hf t
  have hp : ∀ a k, ptrs (setW R i m') a k = ptrs R a k := fun a k => ptrs_congr fun j _ => (setW_S R i m' _).1
  have hge := h.ge i hi
  refine ⟨h.fam.set hi hs hf, ?_, ?_, hk 4 (by decide) (by decide) _ _ _ h.own, hk 54 (by decide) (by decide) _ _ _ h.box, ?_, Nat.le_trans h.base hf.size, h.bx, fun j hj => ?_⟩
  · rw [hp]; exact row_keepTy h.row (hk 24 (by decide) (by decide))
  · rw [hp]; exact hk 24 (by decide) (by decide) _ _ _ h.xs
  · exact h.below.trans (hf.below (fun k hk => by rcases hk with rfl | rfl; exact hge.1; exact hge.2) h.base)
  · rw [(setW_S R i m' j).1, (setW_S R i m' j).2.1]; exact h.ge j hj
theorem Apt.x {w wr : World} {B n X gr T N : Nat} {m : Nat → Bool} {R : Nat → SRec} {mv : Value} (h : Apt w B n X gr T m N R mv wr) {i : Nat} (hi : i < 4) : wr.cell? ⟨X, i, none⟩ = some (.pointer (some ⟨(R i).S, 0, none⟩)) := by
  rw [cell_at h.xs]
  have := ptrs_get R 0 hi
  rw [Nat.zero_add] at this
  simpa using this
/-- the element of an own row -/
theorem own_cell {w : World} {B e n : Nat} {v : Value} {xs : List Value} (h : w.ownsRow B e 1 v n xs) {i : Nat} (hi : i < n) : ∃ g cap, v = .slice (some ⟨g, 0, none⟩) n cap ∧ n ≤ cap ∧ cap ≤ 9223372036854775807 ∧ w.cell? ⟨g, i, none⟩ = xs[i]? := by
  rcases h.2 with ⟨_, h0⟩ | ⟨g, cap, cur, rfl, _, hh, hn, hm, hs, ht⟩
  · omega
  · refine ⟨g, cap, rfl, hn, hm, ?_⟩
    rw [cell_at hh, ← ht, List.getElem?_take, if_pos (by omega), Array.getElem?_toList]
abbrev slV (q : Nat) (l : List Nat) : Value := .slice (some ⟨q, 0, none⟩) l.length l.length
def forms (n : Nat) (R : Nat → SRec) (W : Nat → Nat) (K : Nat) : List Value := (List.range K).map fun i => slV (W i) (encS n (R (4 + i)).m)
theorem forms_len (n : Nat) (R : Nat → SRec) (W : Nat → Nat) (K : Nat) : (forms n R W K).length = K := by simp [forms]
theorem forms_get (n : Nat) (R : Nat → SRec) (W : Nat → Nat) {K i : Nat} (h : i < K) : (forms n R W K)[i]? = some (slV (W i) (encS n (R (4 + i)).m)) := by simp [forms, h]
theorem forms_congr {n : Nat} {R R' : Nat → SRec} {W W' : Nat → Nat} {K : Nat} (h : ∀ i, i < K → W i = W' i ∧ (R (4 + i)).m = (R' (4 + i)).m) : forms n R W K = forms n R' W' K :=
  List.map_congr_left fun i hi => by rw [(h i (List.mem_range.1 hi)).1, (h i (List.mem_range.1 hi)).2]
theorem forms_succ (n : Nat) (R : Nat → SRec) (W : Nat → Nat) (K : Nat) : forms n R W (K + 1) = forms n R W K ++ [slV (W K) (encS n (R (4 + K)).m)] := by simp [forms, List.range_succ]
structure Wst (w : World) (B n X gr T : Nat) (m : Nat → Bool) (N : Nat) (R : Nat → SRec) (mv : Value) (K : Nat) (wv : Value) (wr : World) : Prop where
  apt : Apt w B n X gr T m N R mv wr
  was : ∃ W : Nat → Nat, wr.ownsRow B 46 1 wv K (forms n R W K) ∧ ∀ i, i < K → wr.heap[W i]? = some (.cells (u8s (encS n (R (4 + i)).m)).toArray 5 (0, 0))
theorem Wst.keep {w wr w' : World} {B n X gr T N K : Nat} {m : Nat → Bool} {R : Nat → SRec} {mv wv : Value} (h : Wst w B n X gr T m N R mv K wv wr) (hb : Below wr.heap.size wr w') : Wst w B n X gr T m N R mv K wv w' := by
  obtain ⟨W, h1, h2⟩ := h.was
  exact ⟨h.apt.keep hb, W, row_keepTy h1 (keepTy_below hb 46), fun i hi => (hb.block _ (heap_lt (h2 i hi))).trans (h2 i hi)⟩
theorem Wst.start {w wr : World} {B n X gr T N : Nat} {m : Nat → Bool} {R : Nat → SRec} {mv : Value} (h : Apt w B n X gr T m N R mv wr) : Wst w B n X gr T m N R mv 0 (.slice none 0 0) wr :=
  ⟨h, fun _ => 0, World.ownsRow_nil _ _ _ _, fun i hi => absurd hi (by omega)⟩
theorem Wst.set {w wr w' : World} {B n X gr T N K i : Nat} {m m' : Nat → Bool} {R : Nat → SRec} {mv wv : Value} (h : Wst w B n X gr T m N R mv K wv wr) (hi : i < 4 + N) (hK : i < 4 ∨ 4 + K ≤ i) (hs : SetAt w' (R i).S (R i).g (R i).cap n m') (hf : Foot wr w' (fun k => k = (R i).S ∨ k = (R i).g)) :
    Wst w B n X gr T m N (setW R i m') mv K wv w' := by
  obtain ⟨W, h1, h2⟩ := h.was
  have hk := fun t => keepTy_set (h.apt.fam.at_ i hi) hf t
  have he : ∀ j, j < K → (setW R i m' (4 + j)).m = (R (4 + j)).m := fun j hj => by rw [setW_m R i m' (by omega)]
  refine ⟨h.apt.set hi hs hf, W, ?_, fun j hj => ?_⟩
  · rw [forms_congr (R' := R) (W' := W) (fun j hj => ⟨rfl, he j hj⟩)]
    exact row_keepTy h1 (hk 46 (by decide) (by decide))
  · rw [he j hj]
    exact hk 5 (by decide) (by decide) _ _ _ (h2 j hj)
set_option maxRecDepth 100000 in
theorem was_push {w wr w1 : World} {B n X gr T N K q : Nat} {m : Nat → Bool} {R : Nat → SRec} {mv wv : Value} (h : Wst w B n X gr T m N R mv K wv wr) (hb : Below wr.heap.size wr w1) (hq : w1.heap[q]? = some (.cells (u8s (encS n (R (4 + K)).m)).toArray 5 (0, 0))) (hK : K + 1 ≤ 1000) :
    ∃ v' w', (Builtin.append_ #[120, 120] 120 #[wv, .slice (some ⟨w1.heap.size, 0, none⟩) 1 1]).run Tryd.prog (w1.alloc (.cells #[slV q (encS n (R (4 + K)).m)] 46)) = .ok v' w' ∧ Wst w B n X gr T m N R mv (K + 1) v' w' := by
  obtain ⟨i0, hi, hz0, hz1, hz2⟩ := info_parts info46
  have hba := (Below.refl w1.heap.size w1).alloc (Nat.le_refl _) (.cells #[slV q (encS n (R (4 + K)).m)] 46)
  have h2 := (h.keep hb).keep hba
  obtain ⟨W, c1, c2⟩ := h2.was
  obtain ⟨v6, w6, k1, k2, k3, k4⟩ := run_row (w1.alloc (.cells #[slV q (encS n (R (4 + K)).m)] 46)) B 120 120 46 i0 _ 1 24 Tryd.underlying120 hi hz0 hz1 hz2 rfl (by decide) _ _ K 1 (forms n R W K) [slV q (encS n (R (4 + K)).m)] c1 (srcc_cells (heap_new rfl _) rfl) (fun u hu => by rw [List.mem_singleton.1 hu]; rfl) (by unfold maxLen; omega) (by omega) h2.apt.base
  have hkt : ∀ t : TypeId, 46 ≠ t → KeepTy (w1.alloc (.cells #[slV q (encS n (R (4 + K)).m)] 46)) w6 t := fun t ht => keepTy_grown k3 (notTy_row c1 ht)
  have hX : ∀ p, wv.ownBlock = some p → B ≤ p := fun p hp => (World.ownsRow.lt c1 p hp).1
  have ha := h2.apt
  refine ⟨v6, w6, k1, ⟨?_, row_keepTy ha.row (hkt 24 (by decide)), hkt 24 (by decide) _ _ _ ha.xs, hkt 4 (by decide) _ _ _ ha.own, hkt 54 (by decide) _ _ _ ha.box, ha.below.grown k3 ha.base hX, Nat.le_trans ha.base k3.size, ha.bx, ha.ge⟩,
    fun i => if i = K then q else W i, ?_, fun i hi => ?_⟩
  · refine ⟨fun i hi => ?_, ha.fam.ap⟩
    have hs := ha.fam.at_ i hi
    obtain ⟨cur, d1, _⟩ := hs.ws
    refine hs.same ?_ ?_
    · rw [hs.hd]; exact hkt 82 (by decide) _ _ _ hs.hd
    · rw [d1]; exact hkt 83 (by decide) _ _ _ d1
  · rw [forms_succ, if_pos rfl, forms_congr (R' := R) (W' := W) (fun i hi => ⟨if_neg (by omega), rfl⟩)]
    exact k2
  · by_cases e : i = K
    · subst e
      have e1 : (fun j => if j = i then q else W j) i = q := if_pos rfl
      rw [e1]
      exact hkt 5 (by decide) _ _ _ (heap_old hq _)
    · have e1 : (fun j => if j = K then q else W j) i = W i := if_neg e
      rw [e1]
      exact hkt 5 (by decide) _ _ _ (c2 i (by omega))
theorem joined_any (w : World) (k : Nat) (hk : 1 ≤ k ∧ k ≤ 3) {S1 g1 cap1 S2 g2 cap2 n : Nat} {m1 m2 : Nat → Bool} (h1 : SetAt w S1 g1 cap1 n m1) (h2 : SetAt w S2 g2 cap2 n m2) :
    Calls Tryd.prog 26 #[.int .i64 (k : Nat), .pointer (some ⟨S1, 0, none⟩), .pointer (some ⟨S2, 0, none⟩)] w fun e w' => ∃ S g m', e = .returned (.pointer (some ⟨S, 0, none⟩)) ∧ w.heap.size ≤ S ∧ w.heap.size ≤ g ∧ SetAt w' S g (nw n) n m' ∧ Below w.heap.size w w' := by
  obtain rfl | rfl | rfl : k = 1 ∨ k = 2 ∨ k = 3 := by omega
  · exact (joined_1 w h1 h2).mono fun e w' ⟨S, g, a, b, c, d, f⟩ => ⟨S, g, _, a, b, c, d, f⟩
  · exact (joined_2 w h1 h2).mono fun e w' ⟨S, g, a, b, c, d, f⟩ => ⟨S, g, _, a, b, c, d, f⟩
  · exact (joined_3 w h1 h2).mono fun e w' ⟨S, g, a, b, c, d, f⟩ => ⟨S, g, _, a, b, c, d, f⟩
end Go.Proofs.YtmkbbekeimnajaaDoor

/-! Pw: the four sets of the plays, the program's and the document's -/
namespace Go.Proofs.YtmkbbekeimnajaaDoor
open Go.RowKit Ds
structure SlotR where
  S : Nat
  g : Nat
  cap : Nat
  n : Nat
  gr : Nat
  m : Nat → Bool
def pS : Option SlotR → Value
  | some s => .pointer (some ⟨s.S, 0, none⟩)
  | none => .pointer none
def pN : Option SlotR → Value
  | some s => .int .i64 (s.n : Nat)
  | none => .int .i64 0
def pI : Option SlotR → Value
  | some s => .slice (some ⟨s.gr, 0, none⟩) s.n s.n
  | none => .slice none 0 0
def pH : Option SlotR → Value
  | some _ => .bool true
  | none => .bool false
structure Wd (w : World) (B W : Nat) (st : Nat → Option SlotR) : Prop where
  blk : ∃ cs : Array Value, w.heap[W]? = some (.cells cs 75 (0, 0)) ∧ ∀ i, i < 4 → cs[i]? = some (pS (st i)) ∧ cs[4 + i * 2]? = some (pN (st i)) ∧ cs[4 + i * 2 + 1]? = some (pI (st i)) ∧ cs[12 + i]? = some (pH (st i))
  sets : ∀ i s, i < 4 → st i = some s → SetAt w s.S s.g s.cap s.n s.m ∧ ROwn w s.gr s.n s.m ∧ B ≤ s.S ∧ B ≤ s.g
  ap : ∀ i j s t, i < 4 → j < 4 → i ≠ j → st i = some s → st j = some t → s.S ≠ t.S ∧ s.g ≠ t.g
  base : B ≤ W
  size : B ≤ w.heap.size
theorem Wd.keep {w w' : World} {B W : Nat} {st : Nat → Option SlotR} (h : Wd w B W st) (hb : Below w.heap.size w w') : Wd w' B W st := by
  obtain ⟨cs, h1, h2⟩ := h.blk
  exact ⟨⟨cs, (hb.block _ (heap_lt h1)).trans h1, h2⟩, fun i s hi hs => ⟨(h.sets i s hi hs).1.keep hb, (h.sets i s hi hs).2.1.keep hb, (h.sets i s hi hs).2.2⟩, h.ap, h.base, Nat.le_trans h.size hb.size⟩
theorem Wd.cell {w : World} {B W : Nat} {st : Nat → Option SlotR} (h : Wd w B W st) {i : Nat} (hi : i < 4) :
    w.cell? ⟨W, i, none⟩ = some (pS (st i)) ∧ w.cell? ⟨W, 4 + i * 2, none⟩ = some (pN (st i)) ∧ w.cell? ⟨W, 4 + i * 2 + 1, none⟩ = some (pI (st i)) ∧ w.cell? ⟨W, 12 + i, none⟩ = some (pH (st i)) := by
  obtain ⟨cs, h1, h2⟩ := h.blk
  rw [cell_at h1, cell_at h1, cell_at h1, cell_at h1]
  exact h2 i hi
theorem Wd.free {w : World} {B W : Nat} {st : Nat → Option SlotR} (h : Wd w B W st) (k : Nat) : w.frozen? ⟨W, k, none⟩ = false := by
  obtain ⟨cs, h1, _⟩ := h.blk
  exact free_at h1 k
def updS (st : Nat → Option SlotR) (t : Nat) (r : Option SlotR) : Nat → Option SlotR := fun i => if i = t then r else st i
theorem updS_at (st : Nat → Option SlotR) (t : Nat) (r : Option SlotR) : updS st t r t = r := if_pos rfl
theorem updS_far (st : Nat → Option SlotR) {t i : Nat} (r : Option SlotR) (h : i ≠ t) : updS st t r i = st i := if_neg h
theorem get_set {cs : Array Value} {i : Nat} {x v : Value} (h : cs[i]? = some x) : (cs.setIfInBounds i v)[i]? = some v := by
  have := (Array.getElem?_eq_some_iff.1 h).1
  simp [this]
theorem get_far {cs : Array Value} {i j : Nat} {v : Value} (h : j ≠ i) : (cs.setIfInBounds i v)[j]? = cs[j]? := by
  rw [Array.getElem?_setIfInBounds_ne (fun e => h e.symm)]
/-- the four stores of a new set -/
theorem Wd.put {w : World} {B W : Nat} {st : Nat → Option SlotR} (h : Wd w B W st) {t : Nat} (ht : t < 4) (r : SlotR) (hs : SetAt w r.S r.g r.cap r.n r.m) (ho : ROwn w r.gr r.n r.m) (hB : B ≤ r.S ∧ B ≤ r.g)
    (hf : ∀ i s, i < 4 → i ≠ t → st i = some s → s.S ≠ r.S ∧ s.g ≠ r.g) :
    Wd ((((w.setCell ⟨W, t, none⟩ (.pointer (some ⟨r.S, 0, none⟩))).setCell ⟨W, 4 + t * 2, none⟩ (.int .i64 (r.n : Nat))).setCell ⟨W, 4 + t * 2 + 1, none⟩ (.slice (some ⟨r.gr, 0, none⟩) r.n r.n)).setCell ⟨W, 12 + t, none⟩ (.bool true)) B W (updS st t (some r)) := by
  obtain ⟨cs, h1, h2⟩ := h.blk
  have f1 := heap_set h1 (i := t) (.pointer (some ⟨r.S, 0, none⟩))
  have f2 := heap_set f1 (i := 4 + t * 2) (.int .i64 (r.n : Nat))
  have f3 := heap_set f2 (i := 4 + t * 2 + 1) (.slice (some ⟨r.gr, 0, none⟩) r.n r.n)
  have f4 := heap_set f3 (i := 12 + t) (.bool true)
  have hk : ∀ ty : TypeId, 75 ≠ ty → KeepTy w ((((w.setCell ⟨W, t, none⟩ (.pointer (some ⟨r.S, 0, none⟩))).setCell ⟨W, 4 + t * 2, none⟩ (.int .i64 (r.n : Nat))).setCell ⟨W, 4 + t * 2 + 1, none⟩ (.slice (some ⟨r.gr, 0, none⟩) r.n r.n)).setCell ⟨W, 12 + t, none⟩ (.bool true)) ty :=
    fun ty hty => ((((keepTy_at h1 hty _).trans (keepTy_at f1 hty _)).trans (keepTy_at f2 hty _)).trans (keepTy_at f3 hty _))
  have hset : ∀ {S g cap n : Nat} {m : Nat → Bool}, SetAt w S g cap n m → SetAt ((((w.setCell ⟨W, t, none⟩ (.pointer (some ⟨r.S, 0, none⟩))).setCell ⟨W, 4 + t * 2, none⟩ (.int .i64 (r.n : Nat))).setCell ⟨W, 4 + t * 2 + 1, none⟩ (.slice (some ⟨r.gr, 0, none⟩) r.n r.n)).setCell ⟨W, 12 + t, none⟩ (.bool true)) S g cap n m := by
    intro S g cap n m hs
    obtain ⟨cur, k1, _⟩ := hs.ws
    refine hs.same ?_ ?_
    · rw [hs.hd]; exact hk 82 (by decide) _ _ _ hs.hd
    · rw [k1]; exact hk 83 (by decide) _ _ _ k1
  refine ⟨⟨_, f4, fun i hi => ?_⟩, fun i s hi hs' => ?_, fun i j s s2 hi hj hij hs1 hs2 => ?_, h.base, by rw [World.size_setCell, World.size_setCell, World.size_setCell, World.size_setCell]; exact h.size⟩
  · obtain ⟨k1, k2, k3, k4⟩ := h2 i hi
    by_cases e : i = t
    · subst e
      rw [updS_at]
      refine ⟨?_, ?_, ?_, ?_⟩
      · rw [get_far (by omega), get_far (by omega), get_far (by omega)]; exact get_set k1
      · rw [get_far (by omega), get_far (by omega)]; exact get_set (x := pN (st i)) (by rw [get_far (by omega)]; exact k2)
      · rw [get_far (by omega)]; exact get_set (x := pI (st i)) (by rw [get_far (by omega), get_far (by omega)]; exact k3)
      · exact get_set (x := pH (st i)) (by rw [get_far (by omega), get_far (by omega), get_far (by omega)]; exact k4)
    · rw [updS_far _ _ e]
      refine ⟨?_, ?_, ?_, ?_⟩
      · rw [get_far (by omega), get_far (by omega), get_far (by omega), get_far (by omega)]; exact k1
      · rw [get_far (by omega), get_far (by omega), get_far (by omega), get_far (by omega)]; exact k2
      · rw [get_far (by omega), get_far (by omega), get_far (by omega), get_far (by omega)]; exact k3
      · rw [get_far (by omega), get_far (by omega), get_far (by omega), get_far (by omega)]; exact k4
  · by_cases e : i = t
    · subst e
      rw [updS_at] at hs'
      obtain rfl := Option.some.inj hs'
      exact ⟨hset hs, hk 4 (by decide) _ _ _ ho, hB⟩
    · rw [updS_far _ _ e] at hs'
      obtain ⟨a, b, c⟩ := h.sets i s hi hs'
      exact ⟨hset a, hk 4 (by decide) _ _ _ b, c⟩
  · by_cases e : i = t
    · subst e
      rw [updS_at] at hs1
      obtain rfl := Option.some.inj hs1
      rw [updS_far _ _ (fun e => hij e.symm)] at hs2
      have := hf j s2 hj (fun e => hij e.symm) hs2
      exact ⟨fun e => this.1 e.symm, fun e => this.2 e.symm⟩
    · rw [updS_far _ _ e] at hs1
      by_cases e2 : j = t
      · subst e2
        rw [updS_at] at hs2
        obtain rfl := Option.some.inj hs2
        exact hf i s hi e hs1
      · rw [updS_far _ _ e2] at hs2
        exact h.ap i j s s2 hi hj hij hs1 hs2
/-- a set that is new lies apart from all -/
theorem Wd.fresh {w : World} {B W : Nat} {st : Nat → Option SlotR} (h : Wd w B W st) {S g : Nat} (hS : w.heap.size ≤ S) (hg : w.heap.size ≤ g) : ∀ i s, i < 4 → st i = some s → s.S ≠ S ∧ s.g ≠ g := fun i s hi hs => by
  have := (h.sets i s hi hs).1.lt
  exact ⟨by omega, by omega⟩
end Go.Proofs.YtmkbbekeimnajaaDoor

/-! Pt: put (89) -/
namespace Go.Proofs.YtmkbbekeimnajaaDoor
open Go.RowKit Ds
set_option maxRecDepth 100000 in
set_option maxHeartbeats 4000000 in
theorem put_ok (w : World) {B W t : Nat} {st : Nat → Option SlotR} (h : Wd w B W st) (ht : t < 4) {S g cap n gr : Nat} {m : Nat → Bool} (hs : SetAt w S g cap n m) (ho : ROwn w gr n m) (hB : B ≤ S ∧ B ≤ g)
    (hf : ∀ i s, i < 4 → i ≠ t → st i = some s → s.S ≠ S ∧ s.g ≠ g) :
    Calls Tryd.prog 89 #[.pointer (some ⟨W, 0, none⟩), .int .i64 (t : Nat), .pointer (some ⟨S, 0, none⟩), .nilIface, RefV gr n, .int .i64 0] w fun e w' => e = .returned (.bool true) ∧ Wd w' B W (updS st t (some ⟨S, g, cap, n, gr, m⟩)) ∧ Below B w w' := by
  have HW := hide h
  have HS := hide hs
  have HO := hide ho
  have HBB := hide hB
  have HF := hide hf
  have hz := h.size
  have hbw := h.base
  clear h hs ho hB hf
  go_enter Tryd.func89, Tryd.ntmps89
  go_upto_region 1 with (fail)
  have hbx := (Below.refl w.heap.size w).alloc (Nat.le_refl _) (refBox gr n)
  have HW1 := hide (HW.out.keep hbx)
  have HBX := hide (hbx.mono hz)
  have hbox : (w.alloc (refBox gr n)).heap[w.heap.size]? = some (refBox gr n) := heap_new rfl _
  have HP := hide (HW1.out.put ht ⟨S, g, cap, n, gr, m⟩ (HS.out.keep hbx) (HO.out.keep hbx) HBB.out HF.out)
  have hWlt : W < w.heap.size := by obtain ⟨cs, k1, _⟩ := HW.out.blk; exact heap_lt k1
  have hne : W ≠ w.heap.size := by omega
  have hne2 : w.heap.size ≠ W := by omega
  obtain ⟨c0, c1⟩ := cells2 hbox
  clear hbx hbox HW HS HO
  have hb2 : ∀ v1 v2 v3 v4 (w2 : World), Below B w w2 → Below B w ((((w2.setCell ⟨W, t, none⟩ v1).setCell ⟨W, 4 + t * 2, none⟩ v2).setCell ⟨W, 4 + t * 2 + 1, none⟩ v3).setCell ⟨W, 12 + t, none⟩ v4) := fun v1 v2 v3 v4 w2 h => below_set (below_set (below_set (below_set h hbw _) hbw _) hbw _) hbw _
  have HB2 := hide hb2
  clear hb2
  generalize w.alloc (.cells #[.int .i64 (n : Nat), .slice (some ⟨gr, 0, none⟩) n n] 54) = w1 at *
  go_wp2_with fail
  refine (num_nil w1).mono ?_
  rintro e wz ⟨rfl, rfl⟩
  have htt : (t : Int) < 4 := by omega
  obtain ⟨k1, k2, k3, k4⟩ := HW1.out.cell ht
  have f1 := HW1.out.free t
  have f2 := HW1.out.free (4 + t * 2)
  have f3 := HW1.out.free (4 + t * 2 + 1)
  have f4 := HW1.out.free (12 + t)
  go_upto_region 5 with (fail)
  go_region_held_law (fun w' => w'.cell? ⟨w.heap.size, 0, none⟩ = some (.int .i64 (n : Nat)) ∧ w'.cell? ⟨w.heap.size, 1, none⟩ = some (.slice (some ⟨gr, 0, none⟩) n n)) (first | exact ⟨c0, c1⟩ | (constructor <;> simp [World.cell?_setCell_far, c0, c1, hne])) (fail)
  have HW5 := hide (HP.out.keep ((Below.refl _ _).drew))
  have HB5 := hide (HB2.out (.pointer (some ⟨S, 0, none⟩)) (.int .i64 (n : Nat)) (.slice (some ⟨gr, 0, none⟩) n n) (.bool true) w1 HBX.out).drew
  have d0 : ((((w1.setCell ⟨W, t, none⟩ (.pointer (some ⟨S, 0, none⟩))).setCell ⟨W, 4 + t * 2, none⟩ (.int .i64 (n : Nat))).setCell ⟨W, 4 + t * 2 + 1, none⟩ (.slice (some ⟨gr, 0, none⟩) n n)).setCell ⟨W, 12 + t, none⟩ (.bool true)).drew.cell? ⟨w.heap.size, 0, none⟩ = some (.int .i64 (n : Nat)) := by simp [World.cell?_setCell_far, c0, hne]
  have HL := hide (show ∀ q, Calls Tryd.prog 32 #[.pointer (some ⟨S, 0, none⟩)] ((((((w1.setCell ⟨W, t, none⟩ (.pointer (some ⟨S, 0, none⟩))).setCell ⟨W, 4 + t * 2, none⟩ (.int .i64 (n : Nat))).setCell ⟨W, 4 + t * 2 + 1, none⟩ (.slice (some ⟨gr, 0, none⟩) n n)).setCell ⟨W, 12 + t, none⟩ (.bool true)).drew).drewN q) (fun e w' => e = .returned (.int .i64 (n : Nat)) ∧ _ = w') from
    fun q => len_any _ ((HW5.out.sets t ⟨S, g, cap, n, gr, m⟩ ht (updS_at _ _ _)).1.keep (below_drewN (Below.refl _ _) q)))
  clear HP k1 k2 k3 k4 f1 f2 f3 f4 c0 c1 HW1
  generalize ((((w1.setCell ⟨W, t, none⟩ (.pointer (some ⟨S, 0, none⟩))).setCell ⟨W, 4 + t * 2, none⟩ (.int .i64 (n : Nat))).setCell ⟨W, 4 + t * 2 + 1, none⟩ (.slice (some ⟨gr, 0, none⟩) n n)).setCell ⟨W, 12 + t, none⟩ (.bool true)).drew = w5 at *
  go_wp2_with fail
  go_quiet ((go_at_call 32; with_reducible exact Calls.quiet_of_same ((HL.out _).mono (fun _ _ h => ⟨h.1, h.2.symm⟩))))
  go_wp2_with fail
  go_ret
  exact ⟨rfl, HW5.out.keep (below_drewN (Below.refl _ _) _), below_drewN HB5.out _⟩
set_option maxRecDepth 100000 in
set_option maxHeartbeats 2000000 in
theorem put_bad (w : World) {W t : Nat} (a : Addr) (k : Nat) (hk : k ≠ 0) (hnum : ∀ w1, Below w.heap.size w w1 → Calls Tryd.prog 31 #[.iface 153 (.pointer (some a))] w1 fun e w' => e = .returned (.int .i64 (k : Nat)) ∧ w1 = w') :
    Calls Tryd.prog 89 #[.pointer (some ⟨W, 0, none⟩), .int .i64 (t : Nat), .pointer none, .iface 153 (.pointer (some a)), RefNo, .int .i64 (k : Nat)] w fun e w' => e = .returned (.bool true) ∧ Below w.heap.size w w' := by
  have HN := hide hnum
  have hk0 : ¬ k = 0 := hk
  have hk1 : ((k : Int) == 0) = false := by simp only [beq_eq_false_iff_ne, ne_eq]; omega
  have hk2 : ((k : Int) != 0) = true := by simp only [bne_iff_ne, ne_eq]; omega
  clear hnum hk
  go_enter Tryd.func89, Tryd.ntmps89
  go_upto_region 1 with (fail)
  have hbx := (Below.refl w.heap.size w).alloc (Nat.le_refl _) noBox
  have HBX := hide hbx
  clear hbx
  generalize w.alloc (.cells #[.int .i64 0, .slice none 0 0] 54) = w1 at *
  go_wp2_with fail
  refine (HN.out w1 HBX.out).mono ?_
  rintro e wz ⟨rfl, rfl⟩
  go_wp2_with fail
  go_ret
  exact ⟨rfl, HBX.out⟩
end Go.Proofs.YtmkbbekeimnajaaDoor
