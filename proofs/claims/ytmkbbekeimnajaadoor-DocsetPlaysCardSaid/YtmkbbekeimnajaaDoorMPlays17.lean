/- texts of this proof, one behind the other: WReads An Pm -/
import Derived.Test.YtmkbbekeimnajaaDoorMPlays0
import Derived.Test.YtmkbbekeimnajaaDoorMPlays1
import Derived.Test.YtmkbbekeimnajaaDoorMPlays2
import Derived.Test.YtmkbbekeimnajaaDoorMPlays3
import Derived.Test.YtmkbbekeimnajaaDoorMPlays4
import Derived.Test.YtmkbbekeimnajaaDoorMPlays5
import Derived.Test.YtmkbbekeimnajaaDoorMPlays6
import Derived.Test.YtmkbbekeimnajaaDoorMPlays7
import Derived.Test.YtmkbbekeimnajaaDoorMPlays8
import Derived.Test.YtmkbbekeimnajaaDoorMPlays9
import Derived.Test.YtmkbbekeimnajaaDoorMPlays10
import Derived.Test.YtmkbbekeimnajaaDoorMPlays11
import Derived.Test.YtmkbbekeimnajaaDoorMPlays12
import Derived.Test.YtmkbbekeimnajaaDoorMPlays13
import Derived.Test.YtmkbbekeimnajaaDoorMPlays14
import Derived.Test.YtmkbbekeimnajaaDoorMPlays15
import Derived.Test.YtmkbbekeimnajaaDoorMPlays16
import Derived.Deep.RegionLaw
import Derived.Deep.RegionHeldLaw
/-! WReads: DocsetReads: the walk -/
namespace Go.Proofs.YtmkbbekeimnajaaDoor
open Go.RowKit Ds
structure RdSt (w : World) (T S g2 g n : Nat) (m1 m : Nat → Bool) (wr : World) : Prop where
  set : SetAt wr S g2 (nw n) n m1
  own : ROwn wr g n m
  box : wr.heap[T]? = some (.cells #[.int .i64 (n : Nat), .slice (some ⟨g, 0, none⟩) n n] 54 (0, 0))
  deb : DeBr wr
  size : 15 < wr.heap.size
  below : Below w.heap.size w wr
theorem RdSt.keep {w wr w' : World} {T S g2 g n : Nat} {m1 m : Nat → Bool} (h : RdSt w T S g2 g n m1 m wr) (hb : Below wr.heap.size wr w') : RdSt w T S g2 g n m1 m w' :=
  ⟨h.set.keep hb, h.own.keep hb, (hb.block _ (heap_lt h.box)).trans h.box, debr_below h.deb hb h.size, Nat.lt_of_lt_of_le h.size hb.size, h.below.trans (hb.mono h.below.size)⟩
set_option maxRecDepth 100000 in
set_option maxHeartbeats 4000000 in
theorem reads_walk (w : World) (T : DeBr w) (E : Nat → Addr) (hE : Errs w E allErrs) (hg : 25 ≤ w.heap.size) (ao : Option Addr) (k0 : Nat) (bs : List Nat) (h1 : Src w (.slice ao bs.length k0) bs) (hl1 : bs.length ≤ 140737488351232) :
    Calls Tryd.prog 6 #[.slice ao bs.length k0] w fun e w' => e = .returned (.bool true) ∧ Below w.heap.size w w' := by
  have HT := hide T
  have HE := hide hE
  have H1 := hide h1
  clear T hE h1
  go_enter Tryd.func6, Tryd.ntmps6
  go_wp2_with fail
  refine (fixed_any w E HE.out HT.out hg).mono ?_
  rintro e w1 ⟨rfl, hb1⟩
  have HB1 := hide hb1
  have z1 := hb1.size
  have HE1 := hide (HE.out.below hb1 (Nat.le_refl _) (ids_lt hg))
  have HS1 := hide (src_keep H1.out hb1)
  clear hb1
  go_wp2_with fail
  refine (ref_decode w1 _ bs HS1.out hl1).mono ?_
  rintro e w2 ⟨hd, hb2⟩
  have HB2 := hide (HB1.out.trans (hb2.mono z1))
  have z2 := HB2.out.size
  clear hb2
  unfold RefDec at hd
  rcases hd with ⟨n, m, g, hn, hbs, rfl, hgg, hown⟩ | ⟨hno, rfl⟩
  · have HO := hide hown
    have HBS := hide hbs
    clear hown hbs
    have hbox : (w2.alloc (.cells #[.int .i64 (n : Nat), .slice (some ⟨g, 0, none⟩) n n] 54)).heap[w2.heap.size]? = some (.cells #[.int .i64 (n : Nat), .slice (some ⟨g, 0, none⟩) n n] 54 (0, 0)) := heap_new rfl _
    have HBOX := hide hbox
    have hsz := World.size_alloc w2 (.cells #[.int .i64 (n : Nat), .slice (some ⟨g, 0, none⟩) n n] 54)
    have hbb := (Below.refl w2.heap.size w2).alloc (Nat.le_refl _) (.cells #[.int .i64 (n : Nat), .slice (some ⟨g, 0, none⟩) n n] 54)
    have HBB := hide hbb
    have HO3 := hide (HO.out.keep hbb)
    have HB3 := hide (HB2.out.trans (hbb.mono z2))
    have HE3 := hide (HE.out.below HB3.out (Nat.le_refl _) (ids_lt hg))
    have HS3 := hide (src_keep H1.out HB3.out)
    have z3 := HB3.out.size
    clear hbox hbb HO
    go_upto_region 4 with (fail)
    obtain ⟨T0, hT0⟩ : ∃ T, w2.heap.size = T := ⟨_, rfl⟩
    rw [hT0] at HBOX ⊢
    generalize w2.alloc (.cells #[.int .i64 (n : Nat), .slice (some ⟨g, 0, none⟩) n n] 54) = w3 at *
    go_wp2_with fail
    refine (decode_any w3 _ bs HS3.out hl1 E HE3.out (by omega)).mono ?_
    rintro e w4 ⟨hd, hb4⟩
    have HB4 := hide (HB3.out.trans (hb4.mono z3))
    have z4 := HB4.out.size
    unfold DecOut at hd
    rcases hd with ⟨n1, m1, S, g2, hn1, hbs1, rfl, hS, hgg2, hs⟩ | ⟨hno, rfl⟩
    · obtain ⟨rfl, _⟩ := uv_inj hn1 hn (show Uv.uv n1 ++ body n1 m1 (nb n1) = Uv.uv n ++ body n m (nb n) from by rw [← encS, ← encS, ← hbs1, HBS.out])
      have hmm := encS_inj (hbs1.symm.trans HBS.out)
      have HM := hide (show mI m1 n1 = mI m n1 from by unfold mI; rw [mem_congr hmm])
      have HST := hide (show RdSt w T0 S g2 g n1 m1 m w4 from ⟨hs, HO3.out.keep hb4, (hb4.block _ (heap_lt HBOX.out)).trans HBOX.out, debr_below HT.out HB4.out (by omega), by omega, HB4.out⟩)
      clear hs hb4 hbs1 hmm
      go_wp2_with fail
      refine (num_nil w4).mono ?_
      rintro e wz ⟨rfl, rfl⟩
      go_upto_region 7 with (fail)
      have hD := HST.out.keep (w' := w4.drew) ((Below.refl _ _).drew)
      obtain ⟨c0, c1⟩ := cells2 hD.box
      have hcl := cnt_le m n1
      go_region_law (first
        | (go_simp; go_at_call 32; refine (len_any _ (by assumption : RdSt w T0 S g2 g n1 m1 m _).set).mono ?_; rintro e w' ⟨rfl, rfl⟩)
        | (go_simp; go_at_call 13; refine (members_any _ (by assumption : RdSt w T0 S g2 g n1 m1 m _).set (by assumption : RdSt w T0 S g2 g n1 m1 m _).deb (by assumption : RdSt w T0 S g2 g n1 m1 m _).size).mono ?_; rintro e w5 ⟨v5, rfl, ho5, hb5⟩; have hi5 := ints_own (zs := mI m1 n1) (by rw [mI_len]; exact ho5); rw [HM.out] at hi5; obtain ⟨a5, k5, rfl⟩ := ints_form hi5; have hst5 := RdSt.keep (by assumption : RdSt w T0 S g2 g n1 m1 m _) hb5; obtain ⟨c05, c15⟩ := cells2 hst5.box; try (have hi6' := ints_keep hi6 hb5); clear ho5)
        | (go_simp; go_at_call 33; refine (ref_members _ (by assumption : RdSt w T0 S g2 g n1 m1 m _).own hn1).mono ?_; rintro e w6 ⟨v6, rfl, ho6, hb6⟩; have hi6 := ints_own (zs := mI m n1) (by rw [mI_len]; exact ho6); obtain ⟨a6, k6, rfl⟩ := ints_form hi6; have hst6 := RdSt.keep (by assumption : RdSt w T0 S g2 g n1 m1 m _) hb6; obtain ⟨c06, c16⟩ := cells2 hst6.box; try (have hi5' := ints_keep hi5 hb6); clear ho6)
        | (go_simp; go_at_call 23; refine (ints_equal _ _ _ _ _ (mI m n1) (mI m n1) (by assumption) (by assumption) (by rw [mI_len]; omega)).mono ?_; rintro e w7 ⟨rfl, q7, rfl⟩))
      all_goals
        go_wp2_with fail
        go_ret
        exact ⟨rfl, below_drewN (RdSt.below (by assumption : RdSt w T0 S g2 g n1 m1 m _)) _⟩
    · exact absurd HBS.out (hno n m hn)
  · have hno' := hno
    have hsz := World.size_alloc w2 (.cells #[.int .i64 0, .slice none 0 0] 54)
    have hbb := (Below.refl w2.heap.size w2).alloc (Nat.le_refl _) (.cells #[.int .i64 0, .slice none 0 0] 54)
    have HBB := hide hbb
    have HB3 := hide (HB2.out.trans (hbb.mono z2))
    have HE3 := hide (HE.out.below HB3.out (Nat.le_refl _) (ids_lt hg))
    have HS3 := hide (src_keep H1.out HB3.out)
    have z3 := HB3.out.size
    clear hbb
    go_upto_region 4 with (fail)
    generalize w2.alloc (.cells #[.int .i64 0, .slice none 0 0] 54) = w3 at *
    go_wp2_with fail
    refine (decode_any w3 _ bs HS3.out hl1 E HE3.out (by omega)).mono ?_
    rintro e w4 ⟨hd, hb4⟩
    have HB4 := hide (HB3.out.trans (hb4.mono z3))
    unfold DecOut at hd
    rcases hd with ⟨n1, m1, S, g2, hn1, hbs1, rfl, _⟩ | ⟨_, rfl⟩
    · exact absurd hbs1 (hno' n1 m1 hn1)
    · have HE4 := hide (HE.out.below HB4.out (Nat.le_refl _) (ids_lt hg))
      clear hb4
      go_wp2_with fail
      refine (num_corrupt w4 E HE4.out).mono ?_
      rintro e wz ⟨rfl, rfl⟩
      go_wp2_with fail
      go_quiet (fail)
      go_wp2_with fail
      go_ret
      exact ⟨rfl, below_drewN HB4.out _⟩
end Go.Proofs.YtmkbbekeimnajaaDoor

/-! An: anew (38) -/
namespace Go.Proofs.YtmkbbekeimnajaaDoor
open Go.RowKit Ds
set_option maxRecDepth 100000 in
theorem copy_ints (w : World) {v : Value} {zs : List Int} (h : Ints w v zs) (hl : zs.length ≤ 17592186044416) :
    ∃ v' w', (Builtin.append_ #[22, 22] 22 #[.slice (some ⟨w.heap.size, 0, none⟩) 0 0, v]).run Tryd.prog (w.alloc (.cells #[] 3)) = .ok v' w' ∧ w'.ownsRow w.heap.size 3 1 v' zs.length (intCells zs) ∧ Below w.heap.size w w' := by
  obtain ⟨i0, hi, hz0, hz1, hz2⟩ := info_parts info3
  have hb2 : Below w.heap.size w (w.alloc (.cells #[] 3)) := (Below.refl w.heap.size w).alloc (Nat.le_refl _) _
  have hown : (w.alloc (.cells #[] 3)).ownsRow w.heap.size 3 1 (.slice (some ⟨w.heap.size, 0, none⟩) 0 0) 0 [] :=
    ⟨rfl, .inr ⟨_, 0, #[], rfl, Nat.le_refl _, heap_new (w := w) rfl (.cells #[] 3), Nat.le_refl _, by unfold maxLen; omega, rfl, rfl⟩⟩
  obtain ⟨v6, w6, k1, k2, k3, k4⟩ := run_row (w.alloc (.cells #[] 3)) w.heap.size 22 22 3 i0 _ 1 8 Tryd.underlying22 hi hz0 hz1 hz2 rfl (by decide) _ v 0 zs.length [] (intCells zs) hown (srcc_ints (ints_keep h hb2)) (intCells_one _) (by unfold maxLen; omega) (by omega) (by rw [World.size_alloc]; omega)
  rw [Nat.zero_add, List.nil_append] at k2
  exact ⟨v6, w6, k1, k2, hb2.grown k3 (by rw [World.size_alloc]; omega) (fun j hj => (hown.lt j hj).1)⟩
set_option maxRecDepth 100000 in
theorem copy_bytes (w : World) {v : Value} {bs : List Nat} (h : Src w v bs) (hl : bs.length ≤ 140737488355328) :
    ∃ v' w', (Builtin.append_ #[46, 46] 46 #[.slice (some ⟨w.heap.size, 0, none⟩) 0 0, v]).run Tryd.prog (w.alloc (.cells #[] 5)) = .ok v' w' ∧ Own w' w.heap.size v' bs ∧ Below w.heap.size w w' := by
  obtain ⟨i0, hi, hz0, hz1, hz2⟩ := info_parts info5
  have hb2 : Below w.heap.size w (w.alloc (.cells #[] 5)) := (Below.refl w.heap.size w).alloc (Nat.le_refl _) _
  have hown : (w.alloc (.cells #[] 5)).ownsRow w.heap.size 5 1 (.slice (some ⟨w.heap.size, 0, none⟩) 0 0) 0 [] :=
    ⟨rfl, .inr ⟨_, 0, #[], rfl, Nat.le_refl _, heap_new (w := w) rfl (.cells #[] 5), Nat.le_refl _, by unfold maxLen; omega, rfl, rfl⟩⟩
  obtain ⟨v6, w6, k1, k2, k3, k4⟩ := run_row (w.alloc (.cells #[] 5)) w.heap.size 46 46 5 i0 _ 1 1 Tryd.underlying46 hi hz0 hz1 hz2 rfl (by decide) _ v 0 bs.length [] (u8s bs) hown (srcc_src (src_keep h hb2)) (u8s_one _) (by unfold maxLen; omega) (by omega) (by rw [World.size_alloc]; omega)
  rw [Nat.zero_add, List.nil_append] at k2
  exact ⟨v6, w6, k1, k2, hb2.grown k3 (by rw [World.size_alloc]; omega) (fun j hj => (hown.lt j hj).1)⟩
structure RdC (w : World) (T S g2 cap g n : Nat) (m : Nat → Bool) (wr : World) : Prop where
  set : SetAt wr S g2 cap n m
  own : ROwn wr g n m
  box : wr.heap[T]? = some (refBox g n)
  deb : DeBr wr
  size : 15 < wr.heap.size
  below : Below w.heap.size w wr
theorem RdC.keep {w wr w' : World} {T S g2 cap g n : Nat} {m : Nat → Bool} (h : RdC w T S g2 cap g n m wr) (hb : Below wr.heap.size wr w') : RdC w T S g2 cap g n m w' :=
  ⟨h.set.keep hb, h.own.keep hb, (hb.block _ (heap_lt h.box)).trans h.box, debr_below h.deb hb h.size, Nat.lt_of_lt_of_le h.size hb.size, h.below.trans (hb.mono h.below.size)⟩
set_option maxRecDepth 100000 in
set_option maxHeartbeats 8000000 in
theorem anew_any (w : World) (T : DeBr w) (E : Nat → Addr) (hE : Errs w E allErrs) (hg : 25 ≤ w.heap.size) (n : Int) (ao1 : Option Addr) (c1 : Nat) (zs : List Int) (h1 : Ints w (.slice ao1 zs.length c1) zs) (hl1 : zs.length ≤ 17592186044416)
    (ao2 : Option Addr) (c2 : Nat) (bs : List Nat) (h2 : Src w (.slice ao2 bs.length c2) bs) (hl2 : bs.length ≤ 140737488351232) :
    Calls Tryd.prog 38 #[.int .i64 n, .slice ao1 zs.length c1, .slice ao2 bs.length c2] w fun e w' => e = .returned (.bool true) ∧ Below w.heap.size w w' := by
  have HT := hide T
  have HE := hide hE
  have H1 := hide h1
  have H2 := hide h2
  obtain ⟨v1, w1, r1, o1, b1⟩ := copy_ints w h1 hl1
  have HR1 := hide r1
  obtain ⟨a1, k1, rfl⟩ := row_shape o1
  have HI1 := hide (ints_own o1)
  have HB1 := hide b1
  have z1 := b1.size
  have HRO := hide (ref_of w1 n a1 k1 zs HI1.out (by omega))
  clear T hE h1 h2 r1 o1 b1
  go_enter Tryd.func38, Tryd.ntmps38
  · go_wp2_with (at_builtin; refine wpList_run 22 _ w1 _ _ _ rfl (.tmp 17) (.tmp 18) rfl rfl rfl HR1.out ?_)
    refine HRO.out.mono ?_
    rintro e w2 ⟨ho, hb2⟩
    have HB2 := hide (HB1.out.trans (hb2.mono z1))
    have z2 := HB2.out.size
    clear hb2
    unfold RefOf at ho
    rcases ho with ⟨N, g, rfl, hN, hzs, rfl, hgg, hown⟩ | ⟨hbad, rfl⟩
    · have hbx := (Below.refl w2.heap.size w2).alloc (Nat.le_refl _) (refBox g N)
      have HBX := hide ((hown).keep hbx)
      have HBOX := hide (show (w2.alloc (refBox g N)).heap[w2.heap.size]? = some (refBox g N) from heap_new rfl _)
      have HB3 := hide (HB2.out.trans (hbx.mono z2))
      have z3 := HB3.out.size
      clear hbx hown
      go_upto_region 2 with (fail)
      obtain ⟨T0, hT0⟩ : ∃ T, w2.heap.size = T := ⟨_, rfl⟩
      rw [hT0] at HBOX ⊢
      generalize w2.alloc (refBox g N) = w3 at *
      have HI3 := hide (ints_keep H1.out HB3.out)
      have HOF := hide (of_any w3 (N : Int) ao1 c1 zs HI3.out (by omega) (E 0) ((HE.out.below HB3.out (Nat.le_refl _) (ids_lt hg)).cell 0 (by decide)) (by omega))
      go_wp2_with fail
      refine HOF.out.mono ?_
      rintro e w4 ⟨ho, hb4⟩
      have HB4 := hide (HB3.out.trans (hb4.mono z3))
      have z4 := HB4.out.size
      unfold OfOut at ho
      rcases ho with ⟨N', S, g2, cap, hNN, _, _, rfl, hS, hgg2, hs⟩ | ⟨hbad, rfl⟩
      · obtain rfl : N = N' := by omega
        obtain ⟨m, hm⟩ : ∃ m, mOf zs = m := ⟨_, rfl⟩
        rw [hm] at hs HBX
        have HST := hide (show RdC w T0 S g2 cap g N m w4 from ⟨hs, HBX.out.keep hb4, (hb4.block _ (heap_lt HBOX.out)).trans HBOX.out, debr_below HT.out HB4.out (by omega), by omega, HB4.out⟩)
        clear hs hb4 hm
        go_upto_region 3 with (fail)
        go_cut [51] (fun s wx => s = .bool false ∧ Below w.heap.size w wx)
        case first =>
          have hD := HST.out.keep (w' := w4.drew) ((Below.refl _ _).drew)
          have hcl := cnt_le m N
          go_region_held_law (fun w' => w'.cell? ⟨T0, 0, none⟩ = some (.int .i64 (N : Nat)) ∧ w'.cell? ⟨T0, 1, none⟩ = some (.slice (some ⟨g, 0, none⟩) N N)) (exact cells2 (by assumption : RdC w T0 S g2 cap g N m _).box) (first
            | (go_at_call 31; refine (num_nil _).mono ?_; rintro e w' ⟨rfl, rfl⟩)
            | (go_at_call 13; refine (members_any _ (by assumption : RdC w T0 S g2 cap g N m _).set (by assumption : RdC w T0 S g2 cap g N m _).deb (by assumption : RdC w T0 S g2 cap g N m _).size).mono ?_; rintro e w5 ⟨v5, rfl, ho5, hb5⟩; have hi5 := ints_own (zs := mI m N) (by rw [mI_len]; exact ho5); obtain ⟨a5, k5, rfl⟩ := ints_form hi5; have hst5 := RdC.keep (by assumption : RdC w T0 S g2 cap g N m _) hb5; clear ho5 hb5)
            | (go_at_call 33; refine (ref_members _ (by assumption : RdC w T0 S g2 cap g N m _).own hN).mono ?_; rintro e w6 ⟨v6, rfl, ho6, hb6⟩; have hi6 := ints_own (zs := mI m N) (by rw [mI_len]; exact ho6); obtain ⟨a6, k6, rfl⟩ := ints_form hi6; have hst6 := RdC.keep (by assumption : RdC w T0 S g2 cap g N m _) hb6; have hi5' := ints_keep hi5 hb6; clear ho6 hb6)
            | (go_at_call 23; refine (ints_equal _ _ _ _ _ (mI m N) (mI m N) (by assumption) (by assumption) (by rw [mI_len]; omega)).mono ?_; rintro e w7 ⟨rfl, q7, rfl⟩; have hst8 := RdC.keep hst6 (below_drewN (Below.refl _ _) q7)))
          all_goals
            go_wp2_with fail
            go_meet
            exact ⟨rfl, below_drewN (RdC.below (by assumption : RdC w T0 S g2 cap g N m _)) _⟩
        case rest =>
          obtain ⟨rfl, hb⟩ := hcut
          have HBc := hide hb
          have zc := hb.size
          obtain ⟨v2, w1', r2, o2, b2⟩ := copy_bytes wc (src_keep H2.out hb) (by omega)
          have HR2 := hide r2
          unfold Own at o2
          obtain ⟨a2, k2, rfl⟩ := row_shape o2
          have HI2 := hide (show Src w1' (.slice a2 bs.length k2) bs from own_src o2 H2.out.1)
          have HB1' := hide (HBc.out.trans (b2.mono zc))
          have z1' := HB1'.out.size
          have HRD := hide (ref_decode w1' _ bs HI2.out hl2)
          clear r2 o2 b2 hb
          go_wp2_with (at_builtin; refine wpList_run 46 _ w1' _ _ _ rfl (.tmp 53) (.tmp 54) rfl rfl rfl HR2.out ?_)
          refine HRD.out.mono ?_
          rintro e w2 ⟨hd, hb2⟩
          have HB2 := hide (HB1'.out.trans (hb2.mono z1'))
          have z2 := HB2.out.size
          clear hb2
          unfold RefDec at hd
          rcases hd with ⟨N, m0, g, hN, hbs, rfl, hgg, hown⟩ | ⟨hno, rfl⟩
          · have hbx := (Below.refl w2.heap.size w2).alloc (Nat.le_refl _) (refBox g N)
            have HBX := hide ((hown).keep hbx)
            have HBOX := hide (show (w2.alloc (refBox g N)).heap[w2.heap.size]? = some (refBox g N) from heap_new rfl _)
            have HB3 := hide (HB2.out.trans (hbx.mono z2))
            have z3 := HB3.out.size
            have HBS := hide hbs
            clear hbx hown hbs
            go_upto_region 6 with (fail)
            obtain ⟨T0, hT0⟩ : ∃ T, w2.heap.size = T := ⟨_, rfl⟩
            rw [hT0] at HBOX ⊢
            generalize w2.alloc (refBox g N) = w3 at *
            go_wp2_with fail
            refine (decode_any w3 _ bs (src_keep H2.out HB3.out) hl2 E (HE.out.below HB3.out (Nat.le_refl _) (ids_lt hg)) (by omega)).mono ?_
            rintro e w4 ⟨hd, hb4⟩
            have HB4 := hide (HB3.out.trans (hb4.mono z3))
            have z4 := HB4.out.size
            unfold DecOut at hd
            rcases hd with ⟨n1, m, S, g2, hn1, hbs1, rfl, hS, hgg2, hs⟩ | ⟨hno, rfl⟩
            · obtain ⟨rfl, _⟩ := uv_inj hn1 hN (show Uv.uv n1 ++ body n1 m (nb n1) = Uv.uv N ++ body N m0 (nb N) from by rw [← encS, ← encS, ← hbs1, HBS.out])
              have hmm := encS_inj (hbs1.symm.trans HBS.out)
              obtain ⟨cap, hcap⟩ : ∃ cap, nw n1 = cap := ⟨_, rfl⟩
              rw [hcap] at hs
              obtain ⟨N, hNn⟩ : ∃ N, n1 = N := ⟨_, rfl⟩
              subst hNn
              have HST := hide (show RdC w T0 S g2 cap g n1 m w4 from ⟨hs, (HBX.out.congr (fun i hi => (hmm i hi).symm)).keep hb4, (hb4.block _ (heap_lt HBOX.out)).trans HBOX.out, debr_below HT.out HB4.out (by omega), by omega, HB4.out⟩)
              clear hs hb4 hbs1 hmm hcap
              go_upto_region 7 with (fail)
              have hD := HST.out.keep (w' := w4.drew) ((Below.refl _ _).drew)
              have hcl := cnt_le m n1
              go_region_held_law (fun w' => w'.cell? ⟨T0, 0, none⟩ = some (.int .i64 (n1 : Nat)) ∧ w'.cell? ⟨T0, 1, none⟩ = some (.slice (some ⟨g, 0, none⟩) n1 n1)) (exact cells2 (by assumption : RdC w T0 S g2 cap g n1 m _).box) (first
                | (go_at_call 31; refine (num_nil _).mono ?_; rintro e w' ⟨rfl, rfl⟩)
                | (go_at_call 13; refine (members_any _ (by assumption : RdC w T0 S g2 cap g n1 m _).set (by assumption : RdC w T0 S g2 cap g n1 m _).deb (by assumption : RdC w T0 S g2 cap g n1 m _).size).mono ?_; rintro e w5 ⟨v5, rfl, ho5, hb5⟩; have hi5 := ints_own (zs := mI m n1) (by rw [mI_len]; exact ho5); obtain ⟨a5, k5, rfl⟩ := ints_form hi5; have hst5 := RdC.keep (by assumption : RdC w T0 S g2 cap g n1 m _) hb5; clear ho5 hb5)
                | (go_at_call 33; refine (ref_members _ (by assumption : RdC w T0 S g2 cap g n1 m _).own hn1).mono ?_; rintro e w6 ⟨v6, rfl, ho6, hb6⟩; have hi6 := ints_own (zs := mI m n1) (by rw [mI_len]; exact ho6); obtain ⟨a6, k6, rfl⟩ := ints_form hi6; have hst6 := RdC.keep (by assumption : RdC w T0 S g2 cap g n1 m _) hb6; have hi5' := ints_keep hi5 hb6; clear ho6 hb6)
                | (go_at_call 23; refine (ints_equal _ _ _ _ _ (mI m n1) (mI m n1) (by assumption) (by assumption) (by rw [mI_len]; omega)).mono ?_; rintro e w7 ⟨rfl, q7, rfl⟩; have hst8 := RdC.keep hst6 (below_drewN (Below.refl _ _) q7)))
              all_goals
                go_wp2_with fail
                go_ret
                exact ⟨rfl, below_drewN (RdC.below (by assumption : RdC w T0 S g2 cap g n1 m _)) _⟩
            · exact absurd HBS.out (hno _ m0 hN)
          · have hbx := (Below.refl w2.heap.size w2).alloc (Nat.le_refl _) noBox
            have HB3 := hide (HB2.out.trans (hbx.mono z2))
            have z3 := HB3.out.size
            clear hbx
            go_upto_region 6 with (fail)
            generalize w2.alloc noBox = w3 at *
            go_wp2_with fail
            refine (decode_any w3 _ bs (src_keep H2.out HB3.out) hl2 E (HE.out.below HB3.out (Nat.le_refl _) (ids_lt hg)) (by omega)).mono ?_
            rintro e w4 ⟨hd, hb4⟩
            have HB4 := hide (HB3.out.trans (hb4.mono z3))
            have z4 := HB4.out.size
            unfold DecOut at hd
            rcases hd with ⟨n1, m, S, g2, hn1, hbs1, rfl, _⟩ | ⟨_, rfl⟩
            · exact absurd hbs1 (hno n1 m hn1)
            · have hED := fun q => (HE.out.below (below_drewN HB4.out q) (Nat.le_refl _) (ids_lt hg))
              clear hb4
              go_upto_region 7 with (fail)
              have HQ := hide (fun q => num_corrupt (w4.drewN q) E (hED q))
              go_quiet ((go_at_call 31; with_reducible exact Calls.quiet_of_same ((HQ.out _).mono (fun _ _ h => ⟨h.1, h.2.symm⟩))))
              go_wp2_with fail
              go_ret
              exact ⟨rfl, below_drewN HB4.out _⟩
      · exact absurd ⟨by omega, by omega, hzs⟩ hbad
    · have hbx := (Below.refl w2.heap.size w2).alloc (Nat.le_refl _) noBox
      have HB3 := hide (HB2.out.trans (hbx.mono z2))
      have z3 := HB3.out.size
      clear hbx
      go_upto_region 2 with (fail)
      generalize w2.alloc noBox = w3 at *
      have HI3 := hide (ints_keep H1.out HB3.out)
      have HOF := hide (of_any w3 n ao1 c1 zs HI3.out (by omega) (E 0) ((HE.out.below HB3.out (Nat.le_refl _) (ids_lt hg)).cell 0 (by decide)) (by omega))
      go_wp2_with fail
      refine HOF.out.mono ?_
      rintro e w4 ⟨ho, hb4⟩
      have HB4 := hide (HB3.out.trans (hb4.mono z3))
      have z4 := HB4.out.size
      unfold OfOut at ho
      rcases ho with ⟨N', S, g2, cap, hNN, hN', hzs', rfl, _⟩ | ⟨_, rfl⟩
      · exact absurd ⟨by omega, by omega, hzs'⟩ hbad
      · have hED := fun q => (HE.out.below (below_drewN HB4.out q) (Nat.le_refl _) (ids_lt hg))
        clear hb4
        go_upto_region 3 with (fail)
        go_cut [51] (fun s wx => s = .bool false ∧ Below w.heap.size w wx)
        case first =>
          have HQ := hide (fun q => num_range (w4.drewN q) E (hED q))
          go_quiet ((go_at_call 31; with_reducible exact Calls.quiet_of_same ((HQ.out _).mono (fun _ _ h => ⟨h.1, h.2.symm⟩))))
          go_wp2_with fail
          go_meet
          exact ⟨rfl, below_drewN HB4.out _⟩
        case rest =>
          obtain ⟨rfl, hb⟩ := hcut
          have HBc := hide hb
          have zc := hb.size
          obtain ⟨v2, w1', r2, o2, b2⟩ := copy_bytes wc (src_keep H2.out hb) (by omega)
          have HR2 := hide r2
          unfold Own at o2
          obtain ⟨a2, k2, rfl⟩ := row_shape o2
          have HI2 := hide (show Src w1' (.slice a2 bs.length k2) bs from own_src o2 H2.out.1)
          have HB1' := hide (HBc.out.trans (b2.mono zc))
          have z1' := HB1'.out.size
          have HRD := hide (ref_decode w1' _ bs HI2.out hl2)
          clear r2 o2 b2 hb
          go_wp2_with (at_builtin; refine wpList_run 46 _ w1' _ _ _ rfl (.tmp 53) (.tmp 54) rfl rfl rfl HR2.out ?_)
          refine HRD.out.mono ?_
          rintro e w2 ⟨hd, hb2⟩
          have HB2 := hide (HB1'.out.trans (hb2.mono z1'))
          have z2 := HB2.out.size
          clear hb2
          unfold RefDec at hd
          rcases hd with ⟨N, m0, g, hN, hbs, rfl, hgg, hown⟩ | ⟨hno, rfl⟩
          · have hbx := (Below.refl w2.heap.size w2).alloc (Nat.le_refl _) (refBox g N)
            have HBX := hide ((hown).keep hbx)
            have HBOX := hide (show (w2.alloc (refBox g N)).heap[w2.heap.size]? = some (refBox g N) from heap_new rfl _)
            have HB3 := hide (HB2.out.trans (hbx.mono z2))
            have z3 := HB3.out.size
            have HBS := hide hbs
            clear hbx hown hbs
            go_upto_region 6 with (fail)
            obtain ⟨T0, hT0⟩ : ∃ T, w2.heap.size = T := ⟨_, rfl⟩
            rw [hT0] at HBOX ⊢
            generalize w2.alloc (refBox g N) = w3 at *
            go_wp2_with fail
            refine (decode_any w3 _ bs (src_keep H2.out HB3.out) hl2 E (HE.out.below HB3.out (Nat.le_refl _) (ids_lt hg)) (by omega)).mono ?_
            rintro e w4 ⟨hd, hb4⟩
            have HB4 := hide (HB3.out.trans (hb4.mono z3))
            have z4 := HB4.out.size
            unfold DecOut at hd
            rcases hd with ⟨n1, m, S, g2, hn1, hbs1, rfl, hS, hgg2, hs⟩ | ⟨hno, rfl⟩
            · obtain ⟨rfl, _⟩ := uv_inj hn1 hN (show Uv.uv n1 ++ body n1 m (nb n1) = Uv.uv N ++ body N m0 (nb N) from by rw [← encS, ← encS, ← hbs1, HBS.out])
              have hmm := encS_inj (hbs1.symm.trans HBS.out)
              obtain ⟨cap, hcap⟩ : ∃ cap, nw n1 = cap := ⟨_, rfl⟩
              rw [hcap] at hs
              obtain ⟨N, hNn⟩ : ∃ N, n1 = N := ⟨_, rfl⟩
              subst hNn
              have HST := hide (show RdC w T0 S g2 cap g n1 m w4 from ⟨hs, (HBX.out.congr (fun i hi => (hmm i hi).symm)).keep hb4, (hb4.block _ (heap_lt HBOX.out)).trans HBOX.out, debr_below HT.out HB4.out (by omega), by omega, HB4.out⟩)
              clear hs hb4 hbs1 hmm hcap
              go_upto_region 7 with (fail)
              have hD := HST.out.keep (w' := w4.drew) ((Below.refl _ _).drew)
              have hcl := cnt_le m n1
              go_region_held_law (fun w' => w'.cell? ⟨T0, 0, none⟩ = some (.int .i64 (n1 : Nat)) ∧ w'.cell? ⟨T0, 1, none⟩ = some (.slice (some ⟨g, 0, none⟩) n1 n1)) (exact cells2 (by assumption : RdC w T0 S g2 cap g n1 m _).box) (first
                | (go_at_call 31; refine (num_nil _).mono ?_; rintro e w' ⟨rfl, rfl⟩)
                | (go_at_call 13; refine (members_any _ (by assumption : RdC w T0 S g2 cap g n1 m _).set (by assumption : RdC w T0 S g2 cap g n1 m _).deb (by assumption : RdC w T0 S g2 cap g n1 m _).size).mono ?_; rintro e w5 ⟨v5, rfl, ho5, hb5⟩; have hi5 := ints_own (zs := mI m n1) (by rw [mI_len]; exact ho5); obtain ⟨a5, k5, rfl⟩ := ints_form hi5; have hst5 := RdC.keep (by assumption : RdC w T0 S g2 cap g n1 m _) hb5; clear ho5 hb5)
                | (go_at_call 33; refine (ref_members _ (by assumption : RdC w T0 S g2 cap g n1 m _).own hn1).mono ?_; rintro e w6 ⟨v6, rfl, ho6, hb6⟩; have hi6 := ints_own (zs := mI m n1) (by rw [mI_len]; exact ho6); obtain ⟨a6, k6, rfl⟩ := ints_form hi6; have hst6 := RdC.keep (by assumption : RdC w T0 S g2 cap g n1 m _) hb6; have hi5' := ints_keep hi5 hb6; clear ho6 hb6)
                | (go_at_call 23; refine (ints_equal _ _ _ _ _ (mI m n1) (mI m n1) (by assumption) (by assumption) (by rw [mI_len]; omega)).mono ?_; rintro e w7 ⟨rfl, q7, rfl⟩; have hst8 := RdC.keep hst6 (below_drewN (Below.refl _ _) q7)))
              all_goals
                go_wp2_with fail
                go_ret
                exact ⟨rfl, below_drewN (RdC.below (by assumption : RdC w T0 S g2 cap g n1 m _)) _⟩
            · exact absurd HBS.out (hno _ m0 hN)
          · have hbx := (Below.refl w2.heap.size w2).alloc (Nat.le_refl _) noBox
            have HB3 := hide (HB2.out.trans (hbx.mono z2))
            have z3 := HB3.out.size
            clear hbx
            go_upto_region 6 with (fail)
            generalize w2.alloc noBox = w3 at *
            go_wp2_with fail
            refine (decode_any w3 _ bs (src_keep H2.out HB3.out) hl2 E (HE.out.below HB3.out (Nat.le_refl _) (ids_lt hg)) (by omega)).mono ?_
            rintro e w4 ⟨hd, hb4⟩
            have HB4 := hide (HB3.out.trans (hb4.mono z3))
            have z4 := HB4.out.size
            unfold DecOut at hd
            rcases hd with ⟨n1, m, S, g2, hn1, hbs1, rfl, _⟩ | ⟨_, rfl⟩
            · exact absurd hbs1 (hno n1 m hn1)
            · have hED := fun q => (HE.out.below (below_drewN HB4.out q) (Nat.le_refl _) (ids_lt hg))
              clear hb4
              go_upto_region 7 with (fail)
              have HQ := hide (fun q => num_corrupt (w4.drewN q) E (hED q))
              go_quiet ((go_at_call 31; with_reducible exact Calls.quiet_of_same ((HQ.out _).mono (fun _ _ h => ⟨h.1, h.2.symm⟩))))
              go_wp2_with fail
              go_ret
              exact ⟨rfl, below_drewN HB4.out _⟩
end Go.Proofs.YtmkbbekeimnajaaDoor

/-! Pm: makes (73) -/
namespace Go.Proofs.YtmkbbekeimnajaaDoor
open Go.RowKit Ds
abbrev OpV (k s t dst n : Int) (lst bv : Value) : Value := .agg #[.int .i64 k, .int .i64 s, .int .i64 t, .int .i64 dst, .int .i64 n, lst, bv]
abbrev opBox (k s t dst n : Int) (lst bv : Value) : Obj := .cells #[.int .i64 k, .int .i64 s, .int .i64 t, .int .i64 dst, .int .i64 n, lst, bv] 77 (0, 0)
theorem cells7 {w : World} {p : Nat} {x0 x1 x2 x3 x4 x5 x6 : Value} {t : TypeId} {fr : Nat × Nat} (h : w.heap[p]? = some (.cells #[x0, x1, x2, x3, x4, x5, x6] t fr)) :
    w.cell? ⟨p, 0, none⟩ = some x0 ∧ w.cell? ⟨p, 1, none⟩ = some x1 ∧ w.cell? ⟨p, 2, none⟩ = some x2 ∧ w.cell? ⟨p, 3, none⟩ = some x3 ∧ w.cell? ⟨p, 4, none⟩ = some x4 ∧ w.cell? ⟨p, 5, none⟩ = some x5 ∧ w.cell? ⟨p, 6, none⟩ = some x6 := by
  refine ⟨?_, ?_, ?_, ?_, ?_, ?_, ?_⟩ <;> (rw [cell_at h]; rfl)
/-- the end of each call of the plays -/
def Done (w0 : World) (W : Nat) (e : Ending) (w' : World) : Prop := e = .returned (.bool true) ∧ ∃ st', Wd w' w0.heap.size W st' ∧ Below w0.heap.size w0 w'
set_option maxRecDepth 100000 in
set_option maxHeartbeats 1000000 in
theorem makes_new (w0 w : World) (E : Nat → Addr) (hE : Errs w0 E allErrs) (hT : DeBr w0) (hg : 25 ≤ w0.heap.size) (hb : Below w0.heap.size w0 w) {W : Nat} {st : Nat → Option SlotR} (hW : Wd w w0.heap.size W st) (s t dst n : Int) (lst bv : Value) :
    Calls Tryd.prog 73 #[.pointer (some ⟨W, 0, none⟩), OpV 1 s t dst n lst bv] w fun e w' => Done w0 W e w' := by
  have HEW := hide hE
  have HTW := hide hT
  have HB0 := hide hb
  have HW := hide hW
  have hz := hW.size
  clear hE hT hb hW
  go_enter Tryd.func73, Tryd.ntmps73
  go_upto_region 1 with (fail)
  have hbx := (Below.refl w.heap.size w).alloc (Nat.le_refl _) (opBox 1 s t dst n lst bv)
  have hbox : (w.alloc (opBox 1 s t dst n lst bv)).heap[w.heap.size]? = some (opBox 1 s t dst n lst bv) := heap_new rfl _
  have HW1 := hide (HW.out.keep hbx)
  have HB1 := hide (HB0.out.trans (hbx.mono hz))
  obtain ⟨c0, c1, c2, c3, c4, c5, c6⟩ := cells7 hbox
  have HBOX := hide hbox
  clear hbx hbox HW HB0
  generalize w.alloc (opBox 1 s t dst n lst bv) = w1 at *
  obtain ⟨a, ha⟩ : ∃ a, (s % 4).toNat = a := ⟨_, rfl⟩
  obtain ⟨b, hb'⟩ : ∃ b, (t % 4).toNat = b := ⟨_, rfl⟩
  obtain ⟨d, hd⟩ : ∃ d, (dst % 4).toNat = d := ⟨_, rfl⟩
  have HSA := hide (fun q => slot_any (w1.drewN q) s)
  have HSB := hide (fun q => slot_any (w1.drewN q) t)
  have HSD := hide (fun q => slot_any (w1.drewN q) dst)
  rw [ha] at HSA
  rw [hb'] at HSB
  rw [hd] at HSD
  have hal : a < 4 := by omega
  have hbl : b < 4 := by omega
  have hdl : d < 4 := by omega
  have hai : (a : Int) < 4 := by omega
  have hbi : (b : Int) < 4 := by omega
  have hdi : (d : Int) < 4 := by omega
  clear ha hb' hd
  go_quiet (first | (go_at_call 88; with_reducible exact Calls.quiet_of_same ((HSA.out _).mono (fun _ _ h => ⟨h.1, h.2.symm⟩))) | (go_at_call 88; with_reducible exact Calls.quiet_of_same ((HSB.out _).mono (fun _ _ h => ⟨h.1, h.2.symm⟩))) | (go_at_call 88; with_reducible exact Calls.quiet_of_same ((HSD.out _).mono (fun _ _ h => ⟨h.1, h.2.symm⟩))))
  have HW2 := hide (HW1.out.keep (below_drewN (Below.refl _ _) nq))
  have HB2 := hide (below_drewN HB1.out nq)
  have HBX2 := hide (show (w1.drewN nq).heap[w.heap.size]? = some (opBox 1 s t dst n lst bv) from HBOX.out)
  clear HW1 HB1 HBOX HSA HSB HSD c0 c1 c2 c3 c4 c5 c6
  generalize w1.drewN nq = w2 at *
  obtain ⟨c0, c1, c2, c3, c4, c5, c6⟩ := cells7 HBX2.out
  by_cases hn : 0 ≤ n ∧ n ≤ 1048576
  · obtain ⟨N, rfl⟩ : ∃ N : Nat, n = (N : Int) := ⟨n.toNat, by omega⟩
    have hN : N ≤ 1048576 := by omega
    clear hn
    go_wp2_with fail
    refine (new_ok w2 N hN).mono ?_
    rintro e w3 ⟨S, g, rfl, hS, hgg, hs, hb3⟩
    have HS3 := hide hs
    have HF := hide (fun i s hi (_ : i ≠ d) hs => HW2.out.fresh hS hgg i s hi hs)
    have HGE := hide (show w0.heap.size ≤ S ∧ w0.heap.size ≤ g from by have := HW2.out.size; exact ⟨by omega, by omega⟩)
    have HW3 := hide (HW2.out.keep hb3)
    have HB3 := hide (HB2.out.trans (hb3.mono HW2.out.size))
    have HBX3 := hide ((hb3.block _ (heap_lt HBX2.out)).trans HBX2.out)
    clear hs hb3 hS hgg HW2 HB2 HBX2 c0 c1 c2 c3 c4 c5 c6
    obtain ⟨c0, c1, c2, c3, c4, c5, c6⟩ := cells7 HBX3.out
    go_wp2_with fail
    refine (ref_new w3 N hN).mono ?_
    rintro e w4 ⟨gr, rfl, hgr, ho, hb4⟩
    have hbx := (Below.refl w4.heap.size w4).alloc (Nat.le_refl _) (refBox gr N)
    have HS5 := hide ((HS3.out.keep hb4).keep hbx)
    have HO5 := hide (ho.keep hbx)
    have HW5 := hide ((HW3.out.keep hb4).keep hbx)
    have HB5 := hide ((HB3.out.trans (hb4.mono HW3.out.size)).trans (hbx.mono (HW3.out.keep hb4).size))
    have hbox : (w4.alloc (refBox gr N)).heap[w4.heap.size]? = some (refBox gr N) := heap_new rfl _
    obtain ⟨d0, d1⟩ := cells2 hbox
    clear hb4 hbx ho hgr HS3 HW3 HB3 HBX3 c0 c1 c2 c3 c4 c5 c6 hbox
    go_upto_region 6 with (fail)
    generalize w4.alloc (.cells #[.int .i64 (N : Nat), .slice (some ⟨gr, 0, none⟩) N N] 54) = w5 at *
    go_wp2_with fail
    refine (put_ok w5 HW5.out hdl HS5.out HO5.out HGE.out HF.out).mono ?_
    rintro e w6 ⟨rfl, hw6, hb6⟩
    have HD := hide (show Done w0 W (.returned (.bool true)) w6 from ⟨rfl, _, hw6, HB5.out.trans hb6⟩)
    clear hw6 hb6
    go_wp2_with fail
    go_ret
    exact HD.out
  · have hn' : n < 0 ∨ 1048576 < n := by omega
    have HN := hide hn'
    clear hn hn'
    go_wp2_with fail
    refine (new_bad w2 n HN.out (E 0) ((HEW.out.below HB2.out (Nat.le_refl _) (ids_lt hg)).cell 0 (by decide))).mono ?_
    rintro e w3 ⟨rfl, q, rfl⟩
    have HW3 := hide (HW2.out.keep (below_drewN (Below.refl _ _) q))
    have HB3 := hide (below_drewN HB2.out q)
    have HBX3 := hide (show (w2.drewN q).heap[w.heap.size]? = some (opBox 1 s t dst n lst bv) from HBX2.out)
    clear HW2 HB2 HBX2 c0 c1 c2 c3 c4 c5 c6
    generalize w2.drewN q = w3 at *
    obtain ⟨c0, c1, c2, c3, c4, c5, c6⟩ := cells7 HBX3.out
    go_wp2_with fail
    refine (ref_new_bad w3 n HN.out).mono ?_
    rintro e w4 ⟨rfl, hb4⟩
    have hbx := (Below.refl w4.heap.size w4).alloc (Nat.le_refl _) noBox
    have HW5 := hide ((HW3.out.keep hb4).keep hbx)
    have HB5 := hide ((HB3.out.trans (hb4.mono HW3.out.size)).trans (hbx.mono (HW3.out.keep hb4).size))
    have hbox : (w4.alloc noBox).heap[w4.heap.size]? = some noBox := heap_new rfl _
    obtain ⟨d0, d1⟩ := cells2 hbox
    clear hb4 hbx HW3 HB3 HBX3 c0 c1 c2 c3 c4 c5 c6 hbox
    go_upto_region 6 with (fail)
    generalize w4.alloc (.cells #[.int .i64 0, .slice none 0 0] 54) = w5 at *
    go_wp2_with fail
    refine (put_bad w5 (W := W) (t := d) (E 0) 8 (by decide) (fun w6 hb6 => num_range w6 E ((HEW.out.below HB5.out (Nat.le_refl _) (ids_lt hg)).below hb6 (Nat.le_refl _) (fun g hg' => Nat.lt_of_lt_of_le (ids_lt hg g hg') HW5.out.size)))).mono ?_
    rintro e w6 ⟨rfl, hb6⟩
    have HD := hide (show Done w0 W (.returned (.bool true)) w6 from ⟨rfl, _, HW5.out.keep hb6, HB5.out.trans (hb6.mono HW5.out.size)⟩)
    clear hb6
    go_wp2_with fail
    go_ret
    exact HD.out
set_option maxRecDepth 100000 in
set_option maxHeartbeats 1000000 in
theorem makes_of (w0 w : World) (E : Nat → Addr) (hE : Errs w0 E allErrs) (hT : DeBr w0) (hg : 25 ≤ w0.heap.size) (hb : Below w0.heap.size w0 w) {W : Nat} {st : Nat → Option SlotR} (hW : Wd w w0.heap.size W st) (s t dst n : Int) {ao1 : Option Addr} {k1 len : Nat} {zs : List Int} (hz : Ints w0 (.slice ao1 len k1) zs) (hlz : zs.length = len) (hll : len ≤ 1152921504606846976) (bv : Value) :
    Calls Tryd.prog 73 #[.pointer (some ⟨W, 0, none⟩), OpV 2 s t dst n (.slice ao1 len k1) bv] w fun e w' => Done w0 W e w' := by
  have HZ := hide hz
  have HLZ := hide hlz
  clear hz hlz
  have HEW := hide hE
  have HTW := hide hT
  have HB0 := hide hb
  have HW := hide hW
  have hz := hW.size
  clear hE hT hb hW
  go_enter Tryd.func73, Tryd.ntmps73
  go_upto_region 1 with (fail)
  have hbx := (Below.refl w.heap.size w).alloc (Nat.le_refl _) (opBox 2 s t dst n (.slice ao1 len k1) bv)
  have hbox : (w.alloc (opBox 2 s t dst n (.slice ao1 len k1) bv)).heap[w.heap.size]? = some (opBox 2 s t dst n (.slice ao1 len k1) bv) := heap_new rfl _
  have HW1 := hide (HW.out.keep hbx)
  have HB1 := hide (HB0.out.trans (hbx.mono hz))
  obtain ⟨c0, c1, c2, c3, c4, c5, c6⟩ := cells7 hbox
  have HBOX := hide hbox
  clear hbx hbox HW HB0
  generalize w.alloc (opBox 2 s t dst n (.slice ao1 len k1) bv) = w1 at *
  obtain ⟨a, ha⟩ : ∃ a, (s % 4).toNat = a := ⟨_, rfl⟩
  obtain ⟨b, hb'⟩ : ∃ b, (t % 4).toNat = b := ⟨_, rfl⟩
  obtain ⟨d, hd⟩ : ∃ d, (dst % 4).toNat = d := ⟨_, rfl⟩
  have HSA := hide (fun q => slot_any (w1.drewN q) s)
  have HSB := hide (fun q => slot_any (w1.drewN q) t)
  have HSD := hide (fun q => slot_any (w1.drewN q) dst)
  rw [ha] at HSA
  rw [hb'] at HSB
  rw [hd] at HSD
  have hal : a < 4 := by omega
  have hbl : b < 4 := by omega
  have hdl : d < 4 := by omega
  have hai : (a : Int) < 4 := by omega
  have hbi : (b : Int) < 4 := by omega
  have hdi : (d : Int) < 4 := by omega
  clear ha hb' hd
  go_quiet (first | (go_at_call 88; with_reducible exact Calls.quiet_of_same ((HSA.out _).mono (fun _ _ h => ⟨h.1, h.2.symm⟩))) | (go_at_call 88; with_reducible exact Calls.quiet_of_same ((HSB.out _).mono (fun _ _ h => ⟨h.1, h.2.symm⟩))) | (go_at_call 88; with_reducible exact Calls.quiet_of_same ((HSD.out _).mono (fun _ _ h => ⟨h.1, h.2.symm⟩))))
  have HW2 := hide (HW1.out.keep (below_drewN (Below.refl _ _) nq))
  have HB2 := hide (below_drewN HB1.out nq)
  have HBX2 := hide (show (w1.drewN nq).heap[w.heap.size]? = some (opBox 2 s t dst n (.slice ao1 len k1) bv) from HBOX.out)
  clear HW1 HB1 HBOX HSA HSB HSD c0 c1 c2 c3 c4 c5 c6
  generalize w1.drewN nq = w2 at *
  obtain ⟨c0, c1, c2, c3, c4, c5, c6⟩ := cells7 HBX2.out
  have HRC := hide (ref_of w2 n ao1 k1 zs (by rw [HLZ.out]; exact ints_keep HZ.out HB2.out) (by rw [HLZ.out]; omega))
  rw [HLZ.out] at HRC
  go_wp2_with fail
  refine HRC.out.mono ?_
  rintro e w3 ⟨hr, hb3⟩
  have HB3 := hide (HB2.out.trans (hb3.mono HW2.out.size))
  have HW3 := hide (HW2.out.keep hb3)
  have HBX3 := hide ((hb3.block _ (heap_lt HBX2.out)).trans HBX2.out)
  clear HW2 HB2 HBX2 c0 c1 c2 c3 c4 c5 c6 hb3
  unfold RefOf at hr
  rcases hr with ⟨N, gr, rfl, hN, hzs, rfl, hgr, ho⟩ | ⟨hbad, rfl⟩
  · have hbx := (Below.refl w3.heap.size w3).alloc (Nat.le_refl _) (refBox gr N)
    have HO4 := hide (ho.keep hbx)
    have HW4 := hide (HW3.out.keep hbx)
    have HB4 := hide (HB3.out.trans (hbx.mono HW3.out.size))
    have hbox : (w3.alloc (refBox gr N)).heap[w3.heap.size]? = some (refBox gr N) := heap_new rfl _
    have HBX4 := hide ((hbx.block _ (heap_lt HBX3.out)).trans HBX3.out)
    have HRB := hide hbox
    clear hbx ho HW3 HB3 HBX3 hbox
    go_upto_region 9 with (fail)
    obtain ⟨c0, c1, c2, c3, c4, c5, c6⟩ := cells7 HBX4.out
    generalize w3.alloc (.cells #[.int .i64 (N : Nat), .slice (some ⟨gr, 0, none⟩) N N] 54) = w4 at *
    have HPC := hide (of_any w4 (N : Int) ao1 k1 zs (by rw [HLZ.out]; exact ints_keep HZ.out HB4.out) (by rw [HLZ.out]; omega) (E 0) ((HEW.out.below HB4.out (Nat.le_refl _) (ids_lt hg)).cell 0 (by decide)) (by have := HW4.out.size; omega))
    rw [HLZ.out] at HPC
    go_wp2_with fail
    refine HPC.out.mono ?_
    rintro e w5 ⟨hof, hb5⟩
    unfold OfOut at hof
    rcases hof with ⟨N2, S, g, cap, hNN, _, _, rfl, hS, hgg, hs⟩ | ⟨hbad, rfl⟩
    · obtain rfl : N = N2 := by omega
      have HF := hide (fun i s hi (_ : i ≠ d) hs => HW4.out.fresh hS hgg i s hi hs)
      have HGE := hide (show w0.heap.size ≤ S ∧ w0.heap.size ≤ g from by have := HW4.out.size; exact ⟨by omega, by omega⟩)
      have HS5 := hide hs
      have HO5 := hide (HO4.out.keep hb5)
      have HW5 := hide (HW4.out.keep hb5)
      have HB5 := hide (HB4.out.trans (hb5.mono HW4.out.size))
      have hbox : w5.heap[w3.heap.size]? = some (refBox gr N) := (hb5.block _ (heap_lt HRB.out)).trans HRB.out
      obtain ⟨d0, d1⟩ := cells2 hbox
      clear hb5 hs hS hgg HO4 HW4 HB4 HBX4 HRB c0 c1 c2 c3 c4 c5 c6 hbox
      go_wp2_with fail
      refine (put_ok w5 HW5.out hdl HS5.out HO5.out HGE.out HF.out).mono ?_
      rintro e w6 ⟨rfl, hw6, hb6⟩
      have HD := hide (show Done w0 W (.returned (.bool true)) w6 from ⟨rfl, _, hw6, HB5.out.trans hb6⟩)
      clear hw6 hb6
      go_wp2_with fail
      go_ret
      exact HD.out
    · exact absurd ⟨by omega, by omega, hzs⟩ hbad
  · have hbx := (Below.refl w3.heap.size w3).alloc (Nat.le_refl _) noBox
    have HW4 := hide (HW3.out.keep hbx)
    have HB4 := hide (HB3.out.trans (hbx.mono HW3.out.size))
    have hbox : (w3.alloc noBox).heap[w3.heap.size]? = some noBox := heap_new rfl _
    have HBX4 := hide ((hbx.block _ (heap_lt HBX3.out)).trans HBX3.out)
    have HRB := hide hbox
    clear hbx HW3 HB3 HBX3 hbox
    go_upto_region 9 with (fail)
    obtain ⟨c0, c1, c2, c3, c4, c5, c6⟩ := cells7 HBX4.out
    generalize w3.alloc (.cells #[.int .i64 0, .slice none 0 0] 54) = w4 at *
    have HPC := hide (of_any w4 n ao1 k1 zs (by rw [HLZ.out]; exact ints_keep HZ.out HB4.out) (by rw [HLZ.out]; omega) (E 0) ((HEW.out.below HB4.out (Nat.le_refl _) (ids_lt hg)).cell 0 (by decide)) (by have := HW4.out.size; omega))
    rw [HLZ.out] at HPC
    go_wp2_with fail
    refine HPC.out.mono ?_
    rintro e w5 ⟨hof, hb5⟩
    unfold OfOut at hof
    rcases hof with ⟨N, S, g, cap, hNN, hN, hzs, rfl, _⟩ | ⟨_, rfl⟩
    · exact absurd ⟨by omega, by omega, hzs⟩ hbad
    · have HW5 := hide (HW4.out.keep hb5)
      have HB5 := hide (HB4.out.trans (hb5.mono HW4.out.size))
      have hbox : w5.heap[w3.heap.size]? = some noBox := (hb5.block _ (heap_lt HRB.out)).trans HRB.out
      obtain ⟨d0, d1⟩ := cells2 hbox
      clear hb5 HW4 HB4 HBX4 HRB c0 c1 c2 c3 c4 c5 c6 hbox
      go_wp2_with fail
      refine (put_bad w5 (W := W) (t := d) (E 0) 8 (by decide) (fun w6 hb6 => num_range w6 E ((HEW.out.below HB5.out (Nat.le_refl _) (ids_lt hg)).below hb6 (Nat.le_refl _) (fun g hg' => Nat.lt_of_lt_of_le (ids_lt hg g hg') HW5.out.size)))).mono ?_
      rintro e w6 ⟨rfl, hb6⟩
      have HD := hide (show Done w0 W (.returned (.bool true)) w6 from ⟨rfl, _, HW5.out.keep hb6, HB5.out.trans (hb6.mono HW5.out.size)⟩)
      clear hb6
      go_wp2_with fail
      go_ret
      exact HD.out
set_option maxRecDepth 100000 in
set_option maxHeartbeats 1000000 in
theorem makes_decode (w0 w : World) (E : Nat → Addr) (hE : Errs w0 E allErrs) (hT : DeBr w0) (hg : 25 ≤ w0.heap.size) (hb : Below w0.heap.size w0 w) {W : Nat} {st : Nat → Option SlotR} (hW : Wd w w0.heap.size W st) (s t dst n : Int) (lst : Value) {ao2 : Option Addr} {k2 len : Nat} {bs : List Nat} (hz : Src w0 (.slice ao2 len k2) bs) (hlz : bs.length = len) (hll : len ≤ 140737488351232) :
    Calls Tryd.prog 73 #[.pointer (some ⟨W, 0, none⟩), OpV 3 s t dst n lst (.slice ao2 len k2)] w fun e w' => Done w0 W e w' := by
  have HZ := hide hz
  have HLZ := hide hlz
  clear hz hlz
  have HEW := hide hE
  have HTW := hide hT
  have HB0 := hide hb
  have HW := hide hW
  have hz := hW.size
  clear hE hT hb hW
  go_enter Tryd.func73, Tryd.ntmps73
  go_upto_region 1 with (fail)
  have hbx := (Below.refl w.heap.size w).alloc (Nat.le_refl _) (opBox 3 s t dst n lst (.slice ao2 len k2))
  have hbox : (w.alloc (opBox 3 s t dst n lst (.slice ao2 len k2))).heap[w.heap.size]? = some (opBox 3 s t dst n lst (.slice ao2 len k2)) := heap_new rfl _
  have HW1 := hide (HW.out.keep hbx)
  have HB1 := hide (HB0.out.trans (hbx.mono hz))
  obtain ⟨c0, c1, c2, c3, c4, c5, c6⟩ := cells7 hbox
  have HBOX := hide hbox
  clear hbx hbox HW HB0
  generalize w.alloc (opBox 3 s t dst n lst (.slice ao2 len k2)) = w1 at *
  obtain ⟨a, ha⟩ : ∃ a, (s % 4).toNat = a := ⟨_, rfl⟩
  obtain ⟨b, hb'⟩ : ∃ b, (t % 4).toNat = b := ⟨_, rfl⟩
  obtain ⟨d, hd⟩ : ∃ d, (dst % 4).toNat = d := ⟨_, rfl⟩
  have HSA := hide (fun q => slot_any (w1.drewN q) s)
  have HSB := hide (fun q => slot_any (w1.drewN q) t)
  have HSD := hide (fun q => slot_any (w1.drewN q) dst)
  rw [ha] at HSA
  rw [hb'] at HSB
  rw [hd] at HSD
  have hal : a < 4 := by omega
  have hbl : b < 4 := by omega
  have hdl : d < 4 := by omega
  have hai : (a : Int) < 4 := by omega
  have hbi : (b : Int) < 4 := by omega
  have hdi : (d : Int) < 4 := by omega
  clear ha hb' hd
  go_quiet (first | (go_at_call 88; with_reducible exact Calls.quiet_of_same ((HSA.out _).mono (fun _ _ h => ⟨h.1, h.2.symm⟩))) | (go_at_call 88; with_reducible exact Calls.quiet_of_same ((HSB.out _).mono (fun _ _ h => ⟨h.1, h.2.symm⟩))) | (go_at_call 88; with_reducible exact Calls.quiet_of_same ((HSD.out _).mono (fun _ _ h => ⟨h.1, h.2.symm⟩))))
  have HW2 := hide (HW1.out.keep (below_drewN (Below.refl _ _) nq))
  have HB2 := hide (below_drewN HB1.out nq)
  have HBX2 := hide (show (w1.drewN nq).heap[w.heap.size]? = some (opBox 3 s t dst n lst (.slice ao2 len k2)) from HBOX.out)
  clear HW1 HB1 HBOX HSA HSB HSD c0 c1 c2 c3 c4 c5 c6
  generalize w1.drewN nq = w2 at *
  obtain ⟨c0, c1, c2, c3, c4, c5, c6⟩ := cells7 HBX2.out
  go_wp2_with fail
  refine (ref_decode w2 _ bs (src_keep HZ.out HB2.out) (by rw [HLZ.out]; omega)).mono ?_
  rintro e w3 ⟨hr, hb3⟩
  have HB3 := hide (HB2.out.trans (hb3.mono HW2.out.size))
  have HW3 := hide (HW2.out.keep hb3)
  have HBX3 := hide ((hb3.block _ (heap_lt HBX2.out)).trans HBX2.out)
  clear HW2 HB2 HBX2 c0 c1 c2 c3 c4 c5 c6 hb3
  unfold RefDec at hr
  rcases hr with ⟨N, m, gr, hN, hbs, rfl, hgr, ho⟩ | ⟨hno, rfl⟩
  · have hbx := (Below.refl w3.heap.size w3).alloc (Nat.le_refl _) (refBox gr N)
    have HO4 := hide (ho.keep hbx)
    have HW4 := hide (HW3.out.keep hbx)
    have HB4 := hide (HB3.out.trans (hbx.mono HW3.out.size))
    have hbox : (w3.alloc (refBox gr N)).heap[w3.heap.size]? = some (refBox gr N) := heap_new rfl _
    have HBX4 := hide ((hbx.block _ (heap_lt HBX3.out)).trans HBX3.out)
    have HRB := hide hbox
    clear hbx ho HW3 HB3 HBX3 hbox
    go_upto_region 13 with (fail)
    obtain ⟨c0, c1, c2, c3, c4, c5, c6⟩ := cells7 HBX4.out
    generalize w3.alloc (.cells #[.int .i64 (N : Nat), .slice (some ⟨gr, 0, none⟩) N N] 54) = w4 at *
    go_wp2_with fail
    refine (decode_any w4 _ bs (src_keep HZ.out HB4.out) (by rw [HLZ.out]; omega) E (HEW.out.below HB4.out (Nat.le_refl _) (ids_lt hg)) (Nat.le_trans hg HW4.out.size)).mono ?_
    rintro e w5 ⟨hof, hb5⟩
    unfold DecOut at hof
    rcases hof with ⟨N2, m2, S, g, hN2, hbs2, rfl, hS, hgg, hs⟩ | ⟨hno, rfl⟩
    · obtain rfl : N = N2 := ((uv_inj hN2 hN (show Uv.uv N2 ++ body N2 m2 (nb N2) = Uv.uv N ++ body N m (nb N) from by rw [← encS, ← encS, ← hbs2, hbs])).1).symm
      have hmm := encS_inj (hbs2.symm.trans hbs)
      have HO4 := hide (HO4.out.congr (fun i hi => (hmm i hi).symm))
      have HO44 := HO4
      clear hbs2 hbs hmm
      obtain ⟨cp, hcp⟩ : ∃ cp, nw N = cp := ⟨_, rfl⟩
      rw [hcp] at hs
      clear hcp
      have HF := hide (fun i s hi (_ : i ≠ d) hs => HW4.out.fresh hS hgg i s hi hs)
      have HGE := hide (show w0.heap.size ≤ S ∧ w0.heap.size ≤ g from by have := HW4.out.size; exact ⟨by omega, by omega⟩)
      have HS5 := hide hs
      have HO5 := hide (HO4.out.keep hb5)
      have HW5 := hide (HW4.out.keep hb5)
      have HB5 := hide (HB4.out.trans (hb5.mono HW4.out.size))
      have hbox : w5.heap[w3.heap.size]? = some (refBox gr N) := (hb5.block _ (heap_lt HRB.out)).trans HRB.out
      obtain ⟨d0, d1⟩ := cells2 hbox
      clear hb5 hs hS hgg HO4 HW4 HB4 HBX4 HRB c0 c1 c2 c3 c4 c5 c6 hbox
      go_wp2_with fail
      refine (put_ok w5 HW5.out hdl HS5.out HO5.out HGE.out HF.out).mono ?_
      rintro e w6 ⟨rfl, hw6, hb6⟩
      have HD := hide (show Done w0 W (.returned (.bool true)) w6 from ⟨rfl, _, hw6, HB5.out.trans hb6⟩)
      clear hw6 hb6
      go_wp2_with fail
      go_ret
      exact HD.out
    · exact absurd hbs (hno _ m hN)
  · have hbx := (Below.refl w3.heap.size w3).alloc (Nat.le_refl _) noBox
    have HW4 := hide (HW3.out.keep hbx)
    have HB4 := hide (HB3.out.trans (hbx.mono HW3.out.size))
    have hbox : (w3.alloc noBox).heap[w3.heap.size]? = some noBox := heap_new rfl _
    have HBX4 := hide ((hbx.block _ (heap_lt HBX3.out)).trans HBX3.out)
    have HRB := hide hbox
    clear hbx HW3 HB3 HBX3 hbox
    go_upto_region 13 with (fail)
    obtain ⟨c0, c1, c2, c3, c4, c5, c6⟩ := cells7 HBX4.out
    generalize w3.alloc (.cells #[.int .i64 0, .slice none 0 0] 54) = w4 at *
    go_wp2_with fail
    refine (decode_any w4 _ bs (src_keep HZ.out HB4.out) (by rw [HLZ.out]; omega) E (HEW.out.below HB4.out (Nat.le_refl _) (ids_lt hg)) (Nat.le_trans hg HW4.out.size)).mono ?_
    rintro e w5 ⟨hof, hb5⟩
    unfold DecOut at hof
    rcases hof with ⟨N, m, S, g, hN, hbs, rfl, _⟩ | ⟨_, rfl⟩
    · exact absurd hbs (hno _ m hN)
    · have HW5 := hide (HW4.out.keep hb5)
      have HB5 := hide (HB4.out.trans (hb5.mono HW4.out.size))
      have hbox : w5.heap[w3.heap.size]? = some noBox := (hb5.block _ (heap_lt HRB.out)).trans HRB.out
      obtain ⟨d0, d1⟩ := cells2 hbox
      clear hb5 HW4 HB4 HBX4 HRB c0 c1 c2 c3 c4 c5 c6 hbox
      go_wp2_with fail
      refine (put_bad w5 (W := W) (t := d) (E 1) 10 (by decide) (fun w6 hb6 => num_corrupt w6 E ((HEW.out.below HB5.out (Nat.le_refl _) (ids_lt hg)).below hb6 (Nat.le_refl _) (fun g hg' => Nat.lt_of_lt_of_le (ids_lt hg g hg') HW5.out.size)))).mono ?_
      rintro e w6 ⟨rfl, hb6⟩
      have HD := hide (show Done w0 W (.returned (.bool true)) w6 from ⟨rfl, _, HW5.out.keep hb6, HB5.out.trans (hb6.mono HW5.out.size)⟩)
      clear hb6
      go_wp2_with fail
      go_ret
      exact HD.out
end Go.Proofs.YtmkbbekeimnajaaDoor
