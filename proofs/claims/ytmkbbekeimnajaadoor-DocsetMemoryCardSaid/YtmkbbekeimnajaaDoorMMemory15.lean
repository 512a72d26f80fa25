/- texts of this proof, one behind the other: An Me -/
import Derived.Test.YtmkbbekeimnajaaDoorMMemory0
import Derived.Test.YtmkbbekeimnajaaDoorMMemory1
import Derived.Test.YtmkbbekeimnajaaDoorMMemory2
import Derived.Test.YtmkbbekeimnajaaDoorMMemory3
import Derived.Test.YtmkbbekeimnajaaDoorMMemory4
import Derived.Test.YtmkbbekeimnajaaDoorMMemory5
import Derived.Test.YtmkbbekeimnajaaDoorMMemory6
import Derived.Test.YtmkbbekeimnajaaDoorMMemory7
import Derived.Test.YtmkbbekeimnajaaDoorMMemory8
import Derived.Test.YtmkbbekeimnajaaDoorMMemory9
import Derived.Test.YtmkbbekeimnajaaDoorMMemory10
import Derived.Test.YtmkbbekeimnajaaDoorMMemory11
import Derived.Test.YtmkbbekeimnajaaDoorMMemory12
import Derived.Test.YtmkbbekeimnajaaDoorMMemory13
import Derived.Test.YtmkbbekeimnajaaDoorMMemory14
import Derived.Deep.RegionHeldLaw
/-! An: anew (38) -/
namespace Go.Proofs.YtmkbbekeimnajaaDoor
open Go.RowKit Ds
set_option maxRecDepth 100000 in
theorem copy_ints (w : World) {v : Value} {zs : List Int} (h : Ints w v zs) (hl : zs.length ≤ 17592186044416) :
    ∃ v' w', (Builtin.append_ #[22, 22] 22 #[.slice (some ⟨w.heap.size, 0, none⟩) 0 0, v]).run Tryd.prog (w.alloc (.cells #[] 3)) = .ok v' w' ∧ w'.ownsRow w.heap.size 3 1 v' zs.length (intCells zs) ∧ Below w.heap.size w w' := by
  obtain ⟨i0, hi, hz0, hz1, hz2⟩ := info_parts info3
  have hb2 : Below w.heap.size w (w.alloc (.cells #[] 3)) := (Below.refl w.heap.size w).alloc (Nat.le_refl _) _
  have hown : (w.alloc (.cells #[] 3)).ownsRow w.heap.size 3 1 (.slice (some ⟨w.heap.size, 0, none⟩) 0 0) 0 [] :=
    ⟨rfl, .inr ⟨_, 0, #[], rfl, Nat.le_refl _, heap_new (w := w) rfl (.cells #[] 3), Nat.le_refl _, by unfold maxLen; omega, rfl, rfl⟩⟩
  obtain ⟨v6, w6, k1, k2, k3, k4⟩ := run_row (w.alloc (.cells #[] 3)) w.heap.size 22 22 3 i0 _ 1 8 Tryd.underlying22 hi hz0 hz1 hz2 rfl (by decide) _ v 0 zs.length [] (intCells zs) hown (srcc_ints (ints_keep h hb2)) (intCells_one _) (by unfold maxLen; omega) (by omega) (by rw [World.size_alloc]; omega)
  rw [Nat.zero_add, List.nil_append] at k2
  exact ⟨v6, w6, k1, k2, hb2.grown k3 (by rw [World.size_alloc]; omega) (fun j hj => (hown.lt j hj).1)⟩
set_option maxRecDepth 100000 in
theorem copy_bytes (w : World) {v : Value} {bs : List Nat} (h : Src w v bs) (hl : bs.length ≤ 140737488355328) :
    ∃ v' w', (Builtin.append_ #[46, 46] 46 #[.slice (some ⟨w.heap.size, 0, none⟩) 0 0, v]).run Tryd.prog (w.alloc (.cells #[] 5)) = .ok v' w' ∧ Own w' w.heap.size v' bs ∧ Below w.heap.size w w' := by
  obtain ⟨i0, hi, hz0, hz1, hz2⟩ := info_parts info5
  have hb2 : Below w.heap.size w (w.alloc (.cells #[] 5)) := (Below.refl w.heap.size w).alloc (Nat.le_refl _) _
  have hown : (w.alloc (.cells #[] 5)).ownsRow w.heap.size 5 1 (.slice (some ⟨w.heap.size, 0, none⟩) 0 0) 0 [] :=
    ⟨rfl, .inr ⟨_, 0, #[], rfl, Nat.le_refl _, heap_new (w := w) rfl (.cells #[] 5), Nat.le_refl _, by unfold maxLen; omega, rfl, rfl⟩⟩
  obtain ⟨v6, w6, k1, k2, k3, k4⟩ := run_row (w.alloc (.cells #[] 5)) w.heap.size 46 46 5 i0 _ 1 1 Tryd.underlying46 hi hz0 hz1 hz2 rfl (by decide) _ v 0 bs.length [] (u8s bs) hown (srcc_src (src_keep h hb2)) (u8s_one _) (by unfold maxLen; omega) (by omega) (by rw [World.size_alloc]; omega)
  rw [Nat.zero_add, List.nil_append] at k2
  exact ⟨v6, w6, k1, k2, hb2.grown k3 (by rw [World.size_alloc]; omega) (fun j hj => (hown.lt j hj).1)⟩
structure RdC (w : World) (T S g2 cap g n : Nat) (m : Nat → Bool) (wr : World) : Prop where
  set : SetAt wr S g2 cap n m
  own : ROwn wr g n m
  box : wr.heap[T]? = some (refBox g n)
  deb : DeBr wr
  size : 15 < wr.heap.size
  below : Below w.heap.size w wr
theorem RdC.keep {w wr w' : World} {T S g2 cap g n : Nat} {m : Nat → Bool} (h : RdC w T S g2 cap g n m wr) (hb : Below wr.heap.size wr w') : RdC w T S g2 cap g n m w' :=
  ⟨h.set.keep hb, h.own.keep hb, (hb.block _ (heap_lt h.box)).trans h.box, debr_below h.deb hb h.size, Nat.lt_of_lt_of_le h.size hb.size, h.below.trans (hb.mono h.below.size)⟩
set_option maxRecDepth 100000 in
set_option maxHeartbeats 8000000 in
theorem anew_any (w : World) (T : DeBr w) (E : Nat → Addr) (hE : Errs w E allErrs) (hg : 25 ≤ w.heap.size) (n : Int) (ao1 : Option Addr) (c1 : Nat) (zs : List Int) (h1 : Ints w (.slice ao1 zs.length c1) zs) (hl1 : zs.length ≤ 17592186044416)
    (ao2 : Option Addr) (c2 : Nat) (bs : List Nat) (h2 : Src w (.slice ao2 bs.length c2) bs) (hl2 : bs.length ≤ 140737488351232) :
    Calls Tryd.prog 38 #[.int .i64 n, .slice ao1 zs.length c1, .slice ao2 bs.length c2] w fun e w' => e = .returned (.bool true) ∧ Below w.heap.size w w' := by
  have HT := hide T
  have HE := hide hE
  have H1 := hide h1
  have H2 := hide h2
  obtain ⟨v1, w1, r1, o1, b1⟩ := copy_ints w h1 hl1
  have HR1 := hide r1
  obtain ⟨a1, k1, rfl⟩ := row_shape o1
  have HI1 := hide (ints_own o1)
  have HB1 := hide b1
  have z1 := b1.size
  have HRO := hide (ref_of w1 n a1 k1 zs HI1.out (by omega))
  clear T hE h1 h2 r1 o1 b1
  go_enter Tryd.func38, Tryd.ntmps38
  · go_wp2_with (at_builtin; refine wpList_run 22 _ w1 _ _ _ rfl (.tmp 17) (.tmp 18) rfl rfl rfl HR1.out ?_)
    refine HRO.out.mono ?_
    rintro e w2 ⟨ho, hb2⟩
    have HB2 := hide (HB1.out.trans (hb2.mono z1))
    have z2 := HB2.out.size
    clear hb2
    unfold RefOf at ho
    rcases ho with ⟨N, g, rfl, hN, hzs, rfl, hgg, hown⟩ | ⟨hbad, rfl⟩
    · have hbx := (Below.refl w2.heap.size w2).alloc (Nat.le_refl _) (refBox g N)
      have HBX := hide ((hown).keep hbx)
      have HBOX := hide (show (w2.alloc (refBox g N)).heap[w2.heap.size]? = some (refBox g N) from heap_new rfl _)
      have HB3 := hide (HB2.out.trans (hbx.mono z2))
      have z3 := HB3.out.size
      clear hbx hown
      go_upto_region 2 with (fail)
      obtain ⟨T0, hT0⟩ : ∃ T, w2.heap.size = T := ⟨_, rfl⟩
      rw [hT0] at HBOX ⊢
      generalize w2.alloc (refBox g N) = w3 at *
      have HI3 := hide (ints_keep H1.out HB3.out)
      have HOF := hide (of_any w3 (N : Int) ao1 c1 zs HI3.out (by omega) (E 0) ((HE.out.below HB3.out (Nat.le_refl _) (ids_lt hg)).cell 0 (by decide)) (by omega))
      go_wp2_with fail
      refine HOF.out.mono ?_
      rintro e w4 ⟨ho, hb4⟩
      have HB4 := hide (HB3.out.trans (hb4.mono z3))
      have z4 := HB4.out.size
      unfold OfOut at ho
      rcases ho with ⟨N', S, g2, cap, hNN, _, _, rfl, hS, hgg2, hs⟩ | ⟨hbad, rfl⟩
      · obtain rfl : N = N' := by omega
        obtain ⟨m, hm⟩ : ∃ m, mOf zs = m := ⟨_, rfl⟩
        rw [hm] at hs HBX
        have HST := hide (show RdC w T0 S g2 cap g N m w4 from ⟨hs, HBX.out.keep hb4, (hb4.block _ (heap_lt HBOX.out)).trans HBOX.out, debr_below HT.out HB4.out (by omega), by omega, HB4.out⟩)
        clear hs hb4 hm
        go_upto_region 3 with (fail)
        go_cut [51] (fun s wx => s = .bool false ∧ Below w.heap.size w wx)
        case first =>
          have hD := HST.out.keep (w' := w4.drew) ((Below.refl _ _).drew)
          have hcl := cnt_le m N
          go_region_held_law (fun w' => w'.cell? ⟨T0, 0, none⟩ = some (.int .i64 (N : Nat)) ∧ w'.cell? ⟨T0, 1, none⟩ = some (.slice (some ⟨g, 0, none⟩) N N)) (exact cells2 (by assumption : RdC w T0 S g2 cap g N m _).box) (first
            | (go_at_call 31; refine (num_nil _).mono ?_; rintro e w' ⟨rfl, rfl⟩)
            | (go_at_call 13; refine (members_any _ (by assumption : RdC w T0 S g2 cap g N m _).set (by assumption : RdC w T0 S g2 cap g N m _).deb (by assumption : RdC w T0 S g2 cap g N m _).size).mono ?_; rintro e w5 ⟨v5, rfl, ho5, hb5⟩; have hi5 := ints_own (zs := mI m N) (by rw [mI_len]; exact ho5); obtain ⟨a5, k5, rfl⟩ := ints_form hi5; have hst5 := RdC.keep (by assumption : RdC w T0 S g2 cap g N m _) hb5; clear ho5 hb5)
            | (go_at_call 33; refine (ref_members _ (by assumption : RdC w T0 S g2 cap g N m _).own hN).mono ?_; rintro e w6 ⟨v6, rfl, ho6, hb6⟩; have hi6 := ints_own (zs := mI m N) (by rw [mI_len]; exact ho6); obtain ⟨a6, k6, rfl⟩ := ints_form hi6; have hst6 := RdC.keep (by assumption : RdC w T0 S g2 cap g N m _) hb6; have hi5' := ints_keep hi5 hb6; clear ho6 hb6)
            | (go_at_call 23; refine (ints_equal _ _ _ _ _ (mI m N) (mI m N) (by assumption) (by assumption) (by rw [mI_len]; omega)).mono ?_; rintro e w7 ⟨rfl, q7, rfl⟩; have hst8 := RdC.keep hst6 (below_drewN (Below.refl _ _) q7)))
          all_goals
            go_wp2_with fail
            go_meet
            exact ⟨rfl, below_drewN (RdC.below (by assumption : RdC w T0 S g2 cap g N m _)) _⟩
        case rest =>
          obtain ⟨rfl, hb⟩ := hcut
          have HBc := hide hb
          have zc := hb.size
          obtain ⟨v2, w1', r2, o2, b2⟩ := copy_bytes wc (src_keep H2.out hb) (by omega)
          have HR2 := hide r2
          unfold Own at o2
          obtain ⟨a2, k2, rfl⟩ := row_shape o2
          have HI2 := hide (show Src w1' (.slice a2 bs.length k2) bs from own_src o2 H2.out.1)
          have HB1' := hide (HBc.out.trans (b2.mono zc))
          have z1' := HB1'.out.size
          have HRD := hide (ref_decode w1' _ bs HI2.out hl2)
          clear r2 o2 b2 hb
          go_wp2_with (at_builtin; refine wpList_run 46 _ w1' _ _ _ rfl (.tmp 53) (.tmp 54) rfl rfl rfl HR2.out ?_)
          refine HRD.out.mono ?_
          rintro e w2 ⟨hd, hb2⟩
          have HB2 := hide (HB1'.out.trans (hb2.mono z1'))
          have z2 := HB2.out.size
          clear hb2
          unfold RefDec at hd
          rcases hd with ⟨N, m0, g, hN, hbs, rfl, hgg, hown⟩ | ⟨hno, rfl⟩
          · have hbx := (Below.refl w2.heap.size w2).alloc (Nat.le_refl _) (refBox g N)
            have HBX := hide ((hown).keep hbx)
            have HBOX := hide (show (w2.alloc (refBox g N)).heap[w2.heap.size]? = some (refBox g N) from heap_new rfl _)
            have HB3 := hide (HB2.out.trans (hbx.mono z2))
            have z3 := HB3.out.size
            have HBS := hide hbs
            clear hbx hown hbs
            go_upto_region 6 with (fail)
            obtain ⟨T0, hT0⟩ : ∃ T, w2.heap.size = T := ⟨_, rfl⟩
            rw [hT0] at HBOX ⊢
            generalize w2.alloc (refBox g N) = w3 at *
            go_wp2_with fail
            refine (decode_any w3 _ bs (src_keep H2.out HB3.out) hl2 E (HE.out.below HB3.out (Nat.le_refl _) (ids_lt hg)) (by omega)).mono ?_
            rintro e w4 ⟨hd, hb4⟩
            have HB4 := hide (HB3.out.trans (hb4.mono z3))
            have z4 := HB4.out.size
            unfold DecOut at hd
            rcases hd with ⟨n1, m, S, g2, hn1, hbs1, rfl, hS, hgg2, hs⟩ | ⟨hno, rfl⟩
            · obtain ⟨rfl, _⟩ := uv_inj hn1 hN (show Uv.uv n1 ++ body n1 m (nb n1) = Uv.uv N ++ body N m0 (nb N) from by rw [← encS, ← encS, ← hbs1, HBS.out])
              have hmm := encS_inj (hbs1.symm.trans HBS.out)
              obtain ⟨cap, hcap⟩ : ∃ cap, nw n1 = cap := ⟨_, rfl⟩
              rw [hcap] at hs
              obtain ⟨N, hNn⟩ : ∃ N, n1 = N := ⟨_, rfl⟩
              subst hNn
              have HST := hide (show RdC w T0 S g2 cap g n1 m w4 from ⟨hs, (HBX.out.congr (fun i hi => (hmm i hi).symm)).keep hb4, (hb4.block _ (heap_lt HBOX.out)).trans HBOX.out, debr_below HT.out HB4.out (by omega), by omega, HB4.out⟩)
              clear hs hb4 hbs1 hmm hcap
              go_upto_region 7 with (fail)
              have hD := HST.out.keep (w' := w4.drew) ((Below.refl _ _).drew)
              have hcl := cnt_le m n1
              go_region_held_law (fun w' => w'.cell? ⟨T0, 0, none⟩ = some (.int .i64 (n1 : Nat)) ∧ w'.cell? ⟨T0, 1, none⟩ = some (.slice (some ⟨g, 0, none⟩) n1 n1)) (exact cells2 (by assumption : RdC w T0 S g2 cap g n1 m _).box) (first
                | (go_at_call 31; refine (num_nil _).mono ?_; rintro e w' ⟨rfl, rfl⟩)
                | (go_at_call 13; refine (members_any _ (by assumption : RdC w T0 S g2 cap g n1 m _).set (by assumption : RdC w T0 S g2 cap g n1 m _).deb (by assumption : RdC w T0 S g2 cap g n1 m _).size).mono ?_; rintro e w5 ⟨v5, rfl, ho5, hb5⟩; have hi5 := ints_own (zs := mI m n1) (by rw [mI_len]; exact ho5); obtain ⟨a5, k5, rfl⟩ := ints_form hi5; have hst5 := RdC.keep (by assumption : RdC w T0 S g2 cap g n1 m _) hb5; clear ho5 hb5)
                | (go_at_call 33; refine (ref_members _ (by assumption : RdC w T0 S g2 cap g n1 m _).own hn1).mono ?_; rintro e w6 ⟨v6, rfl, ho6, hb6⟩; have hi6 := ints_own (zs := mI m n1) (by rw [mI_len]; exact ho6); obtain ⟨a6, k6, rfl⟩ := ints_form hi6; have hst6 := RdC.keep (by assumption : RdC w T0 S g2 cap g n1 m _) hb6; have hi5' := ints_keep hi5 hb6; clear ho6 hb6)
                | (go_at_call 23; refine (ints_equal _ _ _ _ _ (mI m n1) (mI m n1) (by assumption) (by assumption) (by rw [mI_len]; omega)).mono ?_; rintro e w7 ⟨rfl, q7, rfl⟩; have hst8 := RdC.keep hst6 (below_drewN (Below.refl _ _) q7)))
              all_goals
                go_wp2_with fail
                go_ret
                exact ⟨rfl, below_drewN (RdC.below (by assumption : RdC w T0 S g2 cap g n1 m _)) _⟩
            · exact absurd HBS.out (hno _ m0 hN)
          · have hbx := (Below.refl w2.heap.size w2).alloc (Nat.le_refl _) noBox
            have HB3 := hide (HB2.out.trans (hbx.mono z2))
            have z3 := HB3.out.size
            clear hbx
            go_upto_region 6 with (fail)
            generalize w2.alloc noBox = w3 at *
            go_wp2_with fail
            refine (decode_any w3 _ bs (src_keep H2.out HB3.out) hl2 E (HE.out.below HB3.out (Nat.le_refl _) (ids_lt hg)) (by omega)).mono ?_
            rintro e w4 ⟨hd, hb4⟩
            have HB4 := hide (HB3.out.trans (hb4.mono z3))
            have z4 := HB4.out.size
            unfold DecOut at hd
            rcases hd with ⟨n1, m, S, g2, hn1, hbs1, rfl, _⟩ | ⟨_, rfl⟩
            · exact absurd hbs1 (hno n1 m hn1)
            · have hED := fun q => (HE.out.below (below_drewN HB4.out q) (Nat.le_refl _) (ids_lt hg))
              clear hb4
              go_upto_region 7 with (fail)
              have HQ := hide (fun q => num_corrupt (w4.drewN q) E (hED q))
              go_quiet ((go_at_call 31; with_reducible exact Calls.quiet_of_same ((HQ.out _).mono (fun _ _ h => ⟨h.1, h.2.symm⟩))))
              go_wp2_with fail
              go_ret
              exact ⟨rfl, below_drewN HB4.out _⟩
      · exact absurd ⟨by omega, by omega, hzs⟩ hbad
    · have hbx := (Below.refl w2.heap.size w2).alloc (Nat.le_refl _) noBox
      have HB3 := hide (HB2.out.trans (hbx.mono z2))
      have z3 := HB3.out.size
      clear hbx
      go_upto_region 2 with (fail)
      generalize w2.alloc noBox = w3 at *
      have HI3 := hide (ints_keep H1.out HB3.out)
      have HOF := hide (of_any w3 n ao1 c1 zs HI3.out (by omega) (E 0) ((HE.out.below HB3.out (Nat.le_refl _) (ids_lt hg)).cell 0 (by decide)) (by omega))
      go_wp2_with fail
      refine HOF.out.mono ?_
      rintro e w4 ⟨ho, hb4⟩
      have HB4 := hide (HB3.out.trans (hb4.mono z3))
      have z4 := HB4.out.size
      unfold OfOut at ho
      rcases ho with ⟨N', S, g2, cap, hNN, hN', hzs', rfl, _⟩ | ⟨_, rfl⟩
      · exact absurd ⟨by omega, by omega, hzs'⟩ hbad
      · have hED := fun q => (HE.out.below (below_drewN HB4.out q) (Nat.le_refl _) (ids_lt hg))
        clear hb4
        go_upto_region 3 with (fail)
        go_cut [51] (fun s wx => s = .bool false ∧ Below w.heap.size w wx)
        case first =>
          have HQ := hide (fun q => num_range (w4.drewN q) E (hED q))
          go_quiet ((go_at_call 31; with_reducible exact Calls.quiet_of_same ((HQ.out _).mono (fun _ _ h => ⟨h.1, h.2.symm⟩))))
          go_wp2_with fail
          go_meet
          exact ⟨rfl, below_drewN HB4.out _⟩
        case rest =>
          obtain ⟨rfl, hb⟩ := hcut
          have HBc := hide hb
          have zc := hb.size
          obtain ⟨v2, w1', r2, o2, b2⟩ := copy_bytes wc (src_keep H2.out hb) (by omega)
          have HR2 := hide r2
          unfold Own at o2
          obtain ⟨a2, k2, rfl⟩ := row_shape o2
          have HI2 := hide (show Src w1' (.slice a2 bs.length k2) bs from own_src o2 H2.out.1)
          have HB1' := hide (HBc.out.trans (b2.mono zc))
          have z1' := HB1'.out.size
          have HRD := hide (ref_decode w1' _ bs HI2.out hl2)
          clear r2 o2 b2 hb
          go_wp2_with (at_builtin; refine wpList_run 46 _ w1' _ _ _ rfl (.tmp 53) (.tmp 54) rfl rfl rfl HR2.out ?_)
          refine HRD.out.mono ?_
          rintro e w2 ⟨hd, hb2⟩
          have HB2 := hide (HB1'.out.trans (hb2.mono z1'))
          have z2 := HB2.out.size
          clear hb2
          unfold RefDec at hd
          rcases hd with ⟨N, m0, g, hN, hbs, rfl, hgg, hown⟩ | ⟨hno, rfl⟩
          · have hbx := (Below.refl w2.heap.size w2).alloc (Nat.le_refl _) (refBox g N)
            have HBX := hide ((hown).keep hbx)
            have HBOX := hide (show (w2.alloc (refBox g N)).heap[w2.heap.size]? = some (refBox g N) from heap_new rfl _)
            have HB3 := hide (HB2.out.trans (hbx.mono z2))
            have z3 := HB3.out.size
            have HBS := hide hbs
            clear hbx hown hbs
            go_upto_region 6 with (fail)
            obtain ⟨T0, hT0⟩ : ∃ T, w2.heap.size = T := ⟨_, rfl⟩
            rw [hT0] at HBOX ⊢
            generalize w2.alloc (refBox g N) = w3 at *
            go_wp2_with fail
            refine (decode_any w3 _ bs (src_keep H2.out HB3.out) hl2 E (HE.out.below HB3.out (Nat.le_refl _) (ids_lt hg)) (by omega)).mono ?_
            rintro e w4 ⟨hd, hb4⟩
            have HB4 := hide (HB3.out.trans (hb4.mono z3))
            have z4 := HB4.out.size
            unfold DecOut at hd
            rcases hd with ⟨n1, m, S, g2, hn1, hbs1, rfl, hS, hgg2, hs⟩ | ⟨hno, rfl⟩
            · obtain ⟨rfl, _⟩ := uv_inj hn1 hN (show Uv.uv n1 ++ body n1 m (nb n1) = Uv.uv N ++ body N m0 (nb N) from by rw [← encS, ← encS, ← hbs1, HBS.out])
              have hmm := encS_inj (hbs1.symm.trans HBS.out)
              obtain ⟨cap, hcap⟩ : ∃ cap, nw n1 = cap := ⟨_, rfl⟩
              rw [hcap] at hs
              obtain ⟨N, hNn⟩ : ∃ N, n1 = N := ⟨_, rfl⟩
              subst hNn
              have HST := hide (show RdC w T0 S g2 cap g n1 m w4 from ⟨hs, (HBX.out.congr (fun i hi => (hmm i hi).symm)).keep hb4, (hb4.block _ (heap_lt HBOX.out)).trans HBOX.out, debr_below HT.out HB4.out (by omega), by omega, HB4.out⟩)
              clear hs hb4 hbs1 hmm hcap
              go_upto_region 7 with (fail)
              have hD := HST.out.keep (w' := w4.drew) ((Below.refl _ _).drew)
              have hcl := cnt_le m n1
              go_region_held_law (fun w' => w'.cell? ⟨T0, 0, none⟩ = some (.int .i64 (n1 : Nat)) ∧ w'.cell? ⟨T0, 1, none⟩ = some (.slice (some ⟨g, 0, none⟩) n1 n1)) (exact cells2 (by assumption : RdC w T0 S g2 cap g n1 m _).box) (first
                | (go_at_call 31; refine (num_nil _).mono ?_; rintro e w' ⟨rfl, rfl⟩)
                | (go_at_call 13; refine (members_any _ (by assumption : RdC w T0 S g2 cap g n1 m _).set (by assumption : RdC w T0 S g2 cap g n1 m _).deb (by assumption : RdC w T0 S g2 cap g n1 m _).size).mono ?_; rintro e w5 ⟨v5, rfl, ho5, hb5⟩; have hi5 := ints_own (zs := mI m n1) (by rw [mI_len]; exact ho5); obtain ⟨a5, k5, rfl⟩ := ints_form hi5; have hst5 := RdC.keep (by assumption : RdC w T0 S g2 cap g n1 m _) hb5; clear ho5 hb5)
                | (go_at_call 33; refine (ref_members _ (by assumption : RdC w T0 S g2 cap g n1 m _).own hn1).mono ?_; rintro e w6 ⟨v6, rfl, ho6, hb6⟩; have hi6 := ints_own (zs := mI m n1) (by rw [mI_len]; exact ho6); obtain ⟨a6, k6, rfl⟩ := ints_form hi6; have hst6 := RdC.keep (by assumption : RdC w T0 S g2 cap g n1 m _) hb6; have hi5' := ints_keep hi5 hb6; clear ho6 hb6)
                | (go_at_call 23; refine (ints_equal _ _ _ _ _ (mI m n1) (mI m n1) (by assumption) (by assumption) (by rw [mI_len]; omega)).mono ?_; rintro e w7 ⟨rfl, q7, rfl⟩; have hst8 := RdC.keep hst6 (below_drewN (Below.refl _ _) q7)))
              all_goals
                go_wp2_with fail
                go_ret
                exact ⟨rfl, below_drewN (RdC.below (by assumption : RdC w T0 S g2 cap g n1 m _)) _⟩
            · exact absurd HBS.out (hno _ m0 hN)
          · have hbx := (Below.refl w2.heap.size w2).alloc (Nat.le_refl _) noBox
            have HB3 := hide (HB2.out.trans (hbx.mono z2))
            have z3 := HB3.out.size
            clear hbx
            go_upto_region 6 with (fail)
            generalize w2.alloc noBox = w3 at *
            go_wp2_with fail
            refine (decode_any w3 _ bs (src_keep H2.out HB3.out) hl2 E (HE.out.below HB3.out (Nat.le_refl _) (ids_lt hg)) (by omega)).mono ?_
            rintro e w4 ⟨hd, hb4⟩
            have HB4 := hide (HB3.out.trans (hb4.mono z3))
            have z4 := HB4.out.size
            unfold DecOut at hd
            rcases hd with ⟨n1, m, S, g2, hn1, hbs1, rfl, _⟩ | ⟨_, rfl⟩
            · exact absurd hbs1 (hno n1 m hn1)
            · have hED := fun q => (HE.out.below (below_drewN HB4.out q) (Nat.le_refl _) (ids_lt hg))
              clear hb4
              go_upto_region 7 with (fail)
              have HQ := hide (fun q => num_corrupt (w4.drewN q) E (hED q))
              go_quiet ((go_at_call 31; with_reducible exact Calls.quiet_of_same ((HQ.out _).mono (fun _ _ h => ⟨h.1, h.2.symm⟩))))
              go_wp2_with fail
              go_ret
              exact ⟨rfl, below_drewN HB4.out _⟩
end Go.Proofs.YtmkbbekeimnajaaDoor

/-! Me: lists with a tail that are handed in, what Of and Decode made of them -/
namespace Go.Proofs.YtmkbbekeimnajaaDoor
open Go.RowKit Ds
theorem intCells_app (l m : List Int) : intCells (l ++ m) = intCells l ++ intCells m := by simp [intCells]
set_option maxRecDepth 100000 in
theorem in_row (w1 : World) (B : Nat) {v0 lst : Value} {zs : List Int} (hown : w1.ownsRow B 3 1 v0 0 []) (hB : B ≤ w1.heap.size) (h : Ints w1 lst zs) (hl : zs.length + 3 ≤ 17592186044416) :
    ∃ v2 w2 v3 w3, (Builtin.append_ #[22, 22] 22 #[v0, lst]).run Tryd.prog w1 = .ok v2 w2 ∧ (Builtin.append_ #[22, 22] 22 #[v2, .slice (some ⟨w2.heap.size, 0, none⟩) 3 3]).run Tryd.prog (w2.alloc (.cells #[.int .i64 (-7), .int .i64 (-8), .int .i64 (-9)] 3)) = .ok v3 w3 ∧
      w3.ownsRow B 3 1 v3 (zs.length + 3) (intCells (zs ++ [-7, -8, -9])) ∧ Below B w1 w3 := by
  obtain ⟨i0, hi, hz0, hz1, hz2⟩ := info_parts info3
  obtain ⟨v2, w2, k1, k2, k3, _⟩ := run_row w1 B 22 22 3 i0 _ 1 8 Tryd.underlying22 hi hz0 hz1 hz2 rfl (by decide) v0 lst 0 zs.length [] (intCells zs) hown (srcc_ints h) (intCells_one _) (by unfold maxLen; omega) (by omega) hB
  rw [Nat.zero_add, List.nil_append] at k2
  have hb2 : Below B w1 w2 := (Below.refl B w1).grown k3 hB (fun q hq => (World.ownsRow.lt hown q hq).1)
  have hsz := hb2.size
  have k2' := World.ownsRow.alloc k2 (.cells #[.int .i64 (-7), .int .i64 (-8), .int .i64 (-9)] 3)
  obtain ⟨v3, w3, r1, r2, r3, _⟩ := run_row (w2.alloc (.cells #[.int .i64 (-7), .int .i64 (-8), .int .i64 (-9)] 3)) B 22 22 3 i0 _ 1 8 Tryd.underlying22 hi hz0 hz1 hz2 rfl (by decide) v2 (.slice (some ⟨w2.heap.size, 0, none⟩) 3 3) zs.length 3 (intCells zs) (intCells [-7, -8, -9]) k2' (srcc_cells (t := 3) (heap_new rfl _) rfl) (intCells_one _) (by unfold maxLen; omega) (by omega) (by rw [World.size_alloc]; omega)
  refine ⟨v2, w2, v3, w3, k1, r1, by rw [intCells_app]; exact r2, ?_⟩
  exact (hb2.alloc (by omega) _).grown r3 (by rw [World.size_alloc]; omega) (fun q hq => (World.ownsRow.lt k2' q hq).1)
set_option maxRecDepth 100000 in
theorem raw_row (w1 : World) (B : Nat) {v0 lst : Value} {bs : List Nat} (hown : w1.ownsRow B 5 1 v0 0 []) (hB : B ≤ w1.heap.size) (h : Src w1 lst bs) (hl : bs.length + 2 ≤ 140737488355328) :
    ∃ v2 w2 v3 w3, (Builtin.append_ #[46, 46] 46 #[v0, lst]).run Tryd.prog w1 = .ok v2 w2 ∧ (Builtin.append_ #[46, 46] 46 #[v2, .slice (some ⟨w2.heap.size, 0, none⟩) 2 2]).run Tryd.prog (w2.alloc (.cells #[.int .u8 251, .int .u8 252] 5)) = .ok v3 w3 ∧
      w3.ownsRow B 5 1 v3 (bs.length + 2) (u8s (bs ++ [251, 252])) ∧ Below B w1 w3 := by
  obtain ⟨i0, hi, hz0, hz1, hz2⟩ := info_parts info5
  obtain ⟨v2, w2, k1, k2, k3, _⟩ := run_row w1 B 46 46 5 i0 _ 1 1 Tryd.underlying46 hi hz0 hz1 hz2 rfl (by decide) v0 lst 0 bs.length [] (u8s bs) hown (srcc_src h) (u8s_one _) (by unfold maxLen; omega) (by omega) hB
  rw [Nat.zero_add, List.nil_append] at k2
  have hb2 : Below B w1 w2 := (Below.refl B w1).grown k3 hB (fun q hq => (World.ownsRow.lt hown q hq).1)
  have hsz := hb2.size
  have k2' := World.ownsRow.alloc k2 (.cells #[.int .u8 251, .int .u8 252] 5)
  obtain ⟨v3, w3, r1, r2, r3, _⟩ := run_row (w2.alloc (.cells #[.int .u8 251, .int .u8 252] 5)) B 46 46 5 i0 _ 1 1 Tryd.underlying46 hi hz0 hz1 hz2 rfl (by decide) v2 (.slice (some ⟨w2.heap.size, 0, none⟩) 2 2) bs.length 2 (u8s bs) (u8s [251, 252]) k2' (srcc_cells (t := 5) (heap_new rfl _) rfl) (u8s_one _) (by unfold maxLen; omega) (by omega) (by rw [World.size_alloc]; omega)
  refine ⟨v2, w2, v3, w3, k1, r1, by rw [u8s_app]; exact r2, ?_⟩
  exact (hb2.alloc (by omega) _).grown r3 (by rw [World.size_alloc]; omega) (fun q hq => (World.ownsRow.lt k2' q hq).1)
theorem in_row_lit (w : World) {lst : Value} {zs : List Int} (h : Ints w lst zs) (hl : zs.length + 3 ≤ 17592186044416) :
    ∃ v2 w2 v3 w3, (Builtin.append_ #[22, 22] 22 #[.slice (some ⟨w.heap.size, 0, none⟩) 0 0, lst]).run Tryd.prog (w.alloc (.cells #[] 3)) = .ok v2 w2 ∧ (Builtin.append_ #[22, 22] 22 #[v2, .slice (some ⟨w2.heap.size, 0, none⟩) 3 3]).run Tryd.prog (w2.alloc (.cells #[.int .i64 (-7), .int .i64 (-8), .int .i64 (-9)] 3)) = .ok v3 w3 ∧
      w3.ownsRow w.heap.size 3 1 v3 (zs.length + 3) (intCells (zs ++ [-7, -8, -9])) ∧ Below w.heap.size w w3 := by
  have hb2 : Below w.heap.size w (w.alloc (.cells #[] 3)) := (Below.refl w.heap.size w).alloc (Nat.le_refl _) _
  have hown : (w.alloc (.cells #[] 3)).ownsRow w.heap.size 3 1 (.slice (some ⟨w.heap.size, 0, none⟩) 0 0) 0 [] :=
    ⟨rfl, .inr ⟨_, 0, #[], rfl, Nat.le_refl _, heap_new (w := w) rfl (.cells #[] 3), Nat.le_refl _, by unfold maxLen; omega, rfl, rfl⟩⟩
  obtain ⟨v2, w2, v3, w3, r1, r2, ho, hb⟩ := in_row _ w.heap.size hown hb2.size (ints_keep h hb2) hl
  exact ⟨v2, w2, v3, w3, r1, r2, ho, hb2.trans hb⟩
theorem raw_row_lit (w : World) {lst : Value} {bs : List Nat} (h : Src w lst bs) (hl : bs.length + 2 ≤ 140737488355328) :
    ∃ v2 w2 v3 w3, (Builtin.append_ #[46, 46] 46 #[.slice (some ⟨w.heap.size, 0, none⟩) 0 0, lst]).run Tryd.prog (w.alloc (.cells #[] 5)) = .ok v2 w2 ∧ (Builtin.append_ #[46, 46] 46 #[v2, .slice (some ⟨w2.heap.size, 0, none⟩) 2 2]).run Tryd.prog (w2.alloc (.cells #[.int .u8 251, .int .u8 252] 5)) = .ok v3 w3 ∧
      w3.ownsRow w.heap.size 5 1 v3 (bs.length + 2) (u8s (bs ++ [251, 252])) ∧ Below w.heap.size w w3 := by
  have hb2 : Below w.heap.size w (w.alloc (.cells #[] 5)) := (Below.refl w.heap.size w).alloc (Nat.le_refl _) _
  have hown : (w.alloc (.cells #[] 5)).ownsRow w.heap.size 5 1 (.slice (some ⟨w.heap.size, 0, none⟩) 0 0) 0 [] :=
    ⟨rfl, .inr ⟨_, 0, #[], rfl, Nat.le_refl _, heap_new (w := w) rfl (.cells #[] 5), Nat.le_refl _, by unfold maxLen; omega, rfl, rfl⟩⟩
  obtain ⟨v2, w2, v3, w3, r1, r2, ho, hb⟩ := raw_row _ w.heap.size hown hb2.size (src_keep h hb2) hl
  exact ⟨v2, w2, v3, w3, r1, r2, ho, hb2.trans hb⟩
theorem row_ints {w : World} {B g n cap k : Nat} {L : List Int} (h : w.ownsRow B 3 1 (.slice (some ⟨g, 0, none⟩) n cap) n (intCells L)) (hk : k ≤ n) : Ints w (.slice (some ⟨g, 0, none⟩) k cap) (L.take k) := by
  have hl := h.1
  rw [intCells_len, Nat.mul_one] at hl
  rcases h.2 with ⟨h0, _⟩ | ⟨g', cap', cur, hv, _, hh, hn, hm, hs, ht⟩
  · cases h0
  · simp only [Value.slice.injEq, Option.some.injEq, Addr.mk.injEq] at hv
    obtain ⟨⟨rfl, _⟩, _, rfl⟩ := hv
    have hlk : (L.take k).length = k := by rw [List.length_take]; omega
    refine .inr ⟨⟨g, 0, none⟩, cap, by rw [hlk], by omega, hm, fun j x hj => ?_⟩
    rw [List.getElem?_take] at hj
    split at hj
    · have e : (intCells L)[j]? = some (.int .i64 x) := by simp [intCells, hj]
      rw [← ht, List.getElem?_take, if_pos (by omega), Array.getElem?_toList] at e
      rw [Addr.add_lit, Nat.zero_add, cell_at hh]
      exact e
    · cases hj
theorem row_src {w : World} {B g n cap k : Nat} {L : List Nat} (h : w.ownsRow B 5 1 (.slice (some ⟨g, 0, none⟩) n cap) n (u8s L)) (hk : k ≤ n) (hx : ∀ x ∈ L, x < 256) : Src w (.slice (some ⟨g, 0, none⟩) k cap) (L.take k) := by
  have hl := h.1
  rw [u8s_len, Nat.mul_one] at hl
  refine ⟨fun x hx' => hx x (List.mem_of_mem_take hx'), ?_⟩
  rcases h.2 with ⟨h0, _⟩ | ⟨g', cap', cur, hv, _, hh, hn, hm, hs, ht⟩
  · cases h0
  · simp only [Value.slice.injEq, Option.some.injEq, Addr.mk.injEq] at hv
    obtain ⟨⟨rfl, _⟩, _, rfl⟩ := hv
    have hlk : (L.take k).length = k := by rw [List.length_take]; omega
    refine .inr ⟨⟨g, 0, none⟩, cap, by rw [hlk], by omega, hm, fun j x hj => ?_⟩
    rw [List.getElem?_take] at hj
    split at hj
    · have e : (u8s L)[j]? = some (.int .u8 x) := by simp [u8s, hj]
      rw [← ht, List.getElem?_take, if_pos (by omega), Array.getElem?_toList] at e
      rw [Addr.add_lit, Nat.zero_add, cell_at hh]
      exact e
    · cases hj
/-- what Of answered, as it lies there -/
def SOut (n : Int) (zs : List Int) (a : Addr) (B : Nat) (es ee : Value) (w : World) : Prop :=
  (∃ (N S g cap : Nat), n = (N : Int) ∧ N ≤ 1048576 ∧ (∀ z ∈ zs, 0 ≤ z ∧ z < n) ∧ es = .pointer (some ⟨S, 0, none⟩) ∧ ee = .nilIface ∧ B ≤ S ∧ B ≤ g ∧ SetAt w S g cap N (mOf zs)) ∨
  ((¬ (0 ≤ n ∧ n ≤ 1048576 ∧ ∀ z ∈ zs, 0 ≤ z ∧ z < n)) ∧ es = .pointer none ∧ ee = .iface 153 (.pointer (some a)))
theorem SOut.of {n : Int} {zs : List Int} {a : Addr} {B B' : Nat} {e : Ending} {w : World} (h : OfOut n zs a B e w) (hB : B' ≤ B) : ∃ es ee, e = .returned (.tuple #[es, ee]) ∧ SOut n zs a B' es ee w := by
  rcases h with ⟨N, S, g, cap, h1, h2, h3, h4, h5, h6, h7⟩ | ⟨h1, h2⟩
  · exact ⟨_, _, h4, .inl ⟨N, S, g, cap, h1, h2, h3, rfl, rfl, by omega, by omega, h7⟩⟩
  · exact ⟨_, _, h2, .inr ⟨h1, rfl, rfl⟩⟩
theorem SOut.keepTy {n : Int} {zs : List Int} {a : Addr} {B : Nat} {es ee : Value} {w w' : World} (h : SOut n zs a B es ee w) (h1 : KeepTy w w' 82) (h2 : KeepTy w w' 83) : SOut n zs a B es ee w' := by
  rcases h with ⟨N, S, g, cap, k1, k2, k3, k4, k5, k6, k7, k8⟩ | h
  · exact .inl ⟨N, S, g, cap, k1, k2, k3, k4, k5, k6, k7, k8.keepTy h1 h2⟩
  · exact .inr h
/-- what Decode answered -/
def DOut (bs : List Nat) (a : Addr) (es ee : Value) (w : World) : Prop :=
  (∃ n m S g, n ≤ 1048576 ∧ bs = encS n m ∧ es = .pointer (some ⟨S, 0, none⟩) ∧ ee = .nilIface ∧ SetAt w S g (nw n) n m) ∨
  (es = .pointer none ∧ ee = .iface 153 (.pointer (some a)))
theorem DOut.of {bs : List Nat} {a : Addr} {e : Ending} {w w' : World} (h : DecOut w w' bs a e) : ∃ es ee, e = .returned (.tuple #[es, ee]) ∧ DOut bs a es ee w' := by
  rcases h with ⟨n, m, S, g, h1, h2, h3, _, _, h6⟩ | ⟨h1, h2⟩
  · exact ⟨_, _, h3, .inl ⟨n, m, S, g, h1, h2, rfl, rfl, h6⟩⟩
  · exact ⟨_, _, h2, .inr ⟨rfl, rfl⟩⟩
theorem DOut.keepTy {bs : List Nat} {a : Addr} {es ee : Value} {w w' : World} (h : DOut bs a es ee w) (h1 : KeepTy w w' 82) (h2 : KeepTy w w' 83) : DOut bs a es ee w' := by
  rcases h with ⟨n, m, S, g, k1, k2, k3, k4, k5⟩ | h
  · exact .inl ⟨n, m, S, g, k1, k2, k3, k4, k5.keepTy h1 h2⟩
  · exact .inr h
/-- the list that was handed in, and Of's answer -/
structure Mid (w : World) (n : Int) (zs : List Int) (a : Addr) (es ee : Value) (g c k : Nat) (L : List Value) (wr : World) : Prop where
  out : SOut n zs a w.heap.size es ee wr
  row : wr.ownsRow w.heap.size 3 1 (.slice (some ⟨g, 0, none⟩) k c) k L
  base : w.heap.size ≤ wr.heap.size
  below : Below w.heap.size w wr
theorem Mid.keep {w wr w' : World} {n : Int} {zs : List Int} {a : Addr} {es ee : Value} {g c k : Nat} {L : List Value} (h : Mid w n zs a es ee g c k L wr) (hb : Below wr.heap.size wr w') : Mid w n zs a es ee g c k L w' :=
  ⟨h.out.keepTy (keepTy_below hb _) (keepTy_below hb _), row_keepTy h.row (keepTy_below hb _), Nat.le_trans h.base hb.size, h.below.trans (hb.mono h.base)⟩
theorem Mid.put {w wr : World} {n : Int} {zs : List Int} {a : Addr} {es ee : Value} {g c k : Nat} {L : List Value} (h : Mid w n zs a es ee g c k L wr) (i : Nat) (x : Value) : Mid w n zs a es ee g c k (L.set i x) (wr.setCell ⟨g, i, none⟩ x) := by
  obtain ⟨cur, hg, hge⟩ := row_heap h.row rfl
  exact ⟨h.out.keepTy (keepTy_at hg (by decide) x) (keepTy_at hg (by decide) x), row_put h.row i x, by rw [World.size_setCell]; exact h.base, below_set h.below hge _⟩
/-- the bytes that were handed in beside, and Decode's answer -/
structure Mid2 (w : World) (n : Int) (zs : List Int) (a : Addr) (es ee : Value) (g c k : Nat) (L : List Value) (bs : List Nat) (a2 : Addr) (ds de : Value) (g2 c2 k2 : Nat) (wr : World) : Prop where
  mid : Mid w n zs a es ee g c k L wr
  out : DOut bs a2 ds de wr
  row : ∃ M : List Nat, M.length = k2 ∧ (∀ x ∈ M, x < 256) ∧ wr.ownsRow w.heap.size 5 1 (.slice (some ⟨g2, 0, none⟩) k2 c2) k2 (u8s M)
theorem Mid2.keep {w wr w' : World} {n : Int} {zs : List Int} {a : Addr} {es ee : Value} {g c k : Nat} {L : List Value} {bs : List Nat} {a2 : Addr} {ds de : Value} {g2 c2 k2 : Nat} (h : Mid2 w n zs a es ee g c k L bs a2 ds de g2 c2 k2 wr) (hb : Below wr.heap.size wr w') : Mid2 w n zs a es ee g c k L bs a2 ds de g2 c2 k2 w' := by
  obtain ⟨M, h1, h2, h3⟩ := h.row
  exact ⟨h.mid.keep hb, h.out.keepTy (keepTy_below hb _) (keepTy_below hb _), M, h1, h2, row_keepTy h3 (keepTy_below hb _)⟩
theorem xor85 : ∀ y : Nat, y < 256 → ∃ z : Nat, z < 256 ∧ bits .xor .u8 (y : Int) 85 = (z : Int) := by
  intro y hy
  have h : ∀ y : Fin 256, (let z := bits .xor .u8 ((y.val : Nat) : Int) 85; decide (0 ≤ z) && decide (z < 256)) = true := by decide +kernel
  have h1 := h ⟨y, hy⟩
  simp only [Bool.and_eq_true, decide_eq_true_eq] at h1
  exact ⟨(bits .xor .u8 (y : Int) 85).toNat, by omega, by omega⟩
theorem Mid2.at {w wr : World} {n : Int} {zs : List Int} {a : Addr} {es ee : Value} {g c k : Nat} {L : List Value} {bs : List Nat} {a2 : Addr} {ds de : Value} {g2 c2 k2 : Nat} (h : Mid2 w n zs a es ee g c k L bs a2 ds de g2 c2 k2 wr) {i : Nat} (hi : i < k2) :
    ∃ y z : Nat, wr.cell? ⟨g2, i, none⟩ = some (.int .u8 (y : Nat)) ∧ wr.frozen? ⟨g2, i, none⟩ = false ∧ bits .xor .u8 (y : Int) 85 = (z : Int) ∧ Mid2 w n zs a es ee g c k L bs a2 ds de g2 c2 k2 (wr.setCell ⟨g2, i, none⟩ (.int .u8 (z : Nat))) := by
  obtain ⟨M, h1, h2, h3⟩ := h.row
  obtain ⟨y, hy⟩ : ∃ y, M[i]? = some y := ⟨_, List.getElem?_eq_getElem (by omega)⟩
  obtain ⟨z, hz1, hz2⟩ := xor85 y (h2 y (List.mem_of_getElem? hy))
  obtain ⟨c1, c2'⟩ := row_cell h3 (j := i) (x := .int .u8 (y : Nat)) (by simp [u8s, hy])
  obtain ⟨cur, hg, hge⟩ := row_heap h3 rfl
  refine ⟨y, z, c1, c2', hz2, ⟨⟨h.mid.out.keepTy (keepTy_at hg (by decide) _) (keepTy_at hg (by decide) _), row_keepTy h.mid.row (keepTy_at hg (by decide) _), by rw [World.size_setCell]; exact h.mid.base, below_set h.mid.below hge _⟩,
    h.out.keepTy (keepTy_at hg (by decide) _) (keepTy_at hg (by decide) _), M.set i z, by rw [List.length_set]; exact h1, fun x hx => ?_, ?_⟩⟩
  · rcases List.mem_or_eq_of_mem_set hx with e | e
    · exact h2 x e
    · omega
  · have e : u8s (M.set i z) = (u8s M).set i (.int .u8 (z : Nat)) := by simp [u8s, List.map_set]
    rw [e]
    exact row_put h3 i _
theorem zeros_ints (k : Nat) (L : List Int) (h : L.length = k) : mk (.int .i64 0) k (intCells L) = intCells (List.replicate k 0) := by
  unfold mk intCells
  rw [List.drop_eq_nil_of_le (by simp; omega), List.append_nil, List.map_replicate]
end Go.Proofs.YtmkbbekeimnajaaDoor
