/- sets in memory: New, Of -/
import Derived.Test.YtmkbbekeimnajaaDoorDs2
import Derived.Test.YtmkbbekeimnajaaDoorLi
namespace Go.Proofs.YtmkbbekeimnajaaDoor
open Go.RowKit Ds
theorem word_none (j : Nat) : word (fun _ => false) j = 0 := (num_ext (x := 0) (by decide) (fun i _ => by simp)).symm
theorem made_wds (k : Nat) : (madeCells #[Value.int IntKind.u64 0] k).toList = wds (fun _ => false) k := by
  apply List.ext_getElem?
  intro j
  by_cases hj : j < k
  · rw [wds_get _ hj, word_none]; simp [madeCells, hj, Nat.mod_one]
  · rw [List.getElem?_eq_none (by simp [madeCells]; omega), List.getElem?_eq_none (by rw [wds_len]; omega)]
theorem cnt_none (n : Nat) : cnt (fun _ => false) n = 0 := by simp [cnt, Ds.mem]
set_option maxRecDepth 100000 in
theorem empty_any (w : World) (n : Nat) (hn : n ≤ 1048576) :
    Calls Tryd.prog 55 #[.int .i64 (n : Nat)] w fun e w' => ∃ S g, e = .returned (.pointer (some ⟨S, 0, none⟩)) ∧ w.heap.size ≤ S ∧ w.heap.size ≤ g ∧ SetAt w' S g (nw n) n (fun _ => false) ∧ Below w.heap.size w w' := by
  obtain ⟨i0, hi, hz0, hz1, hz2⟩ := info_parts info83
  obtain ⟨k, hk⟩ : ∃ k, nw n = k := ⟨_, rfl⟩
  have hkl : k ≤ 16384 := by rw [← hk]; unfold nw; omega
  have hq : ((n : Int) + 63) / 64 = (k : Int) := by rw [← hk]; unfold nw; omega
  have HK := hide hk
  clear hk
  go_enter Tryd.func55, Tryd.ntmps55
  go_wp2_with (at_make; first | refine wpList_make_full _ rfl (.tmp 6) (.tmp 6) 80 rfl w.heap.size 83 i0 (.int .u64 0) 1 Tryd.underlying80 hi hz0 hz1 _ _ _ _ k rfl rfl hq hq ?_ ?_ (Nat.le_refl _) ?_)
  case refine_1 => rw [hz2]; omega
  case refine_2 => unfold maxLen; omega
  intro w1 hown hg
  have HROW := hide (show w1.heap[w.heap.size]? = some (.cells (wds (fun _ => false) k).toArray 83 (0, 0)) from by rw [← made_wds]; exact row_full' hown)
  have HB1 := hide (show Below w.heap.size w w1 from ⟨hg.os, hg.tape, hg.output, hg.size, fun k hk => hg.block k hk (fun e => by cases e)⟩)
  clear hown hg
  go_wp2_with fail
  go_ret
  have hs1 := HB1.out.size
  refine ⟨w1.heap.size, w.heap.size, rfl, hs1, Nat.le_refl _, ⟨?_, ⟨_, heap_old HROW.out _, ?_, ?_⟩, ⟨Nat.le_refl _, by rw [HK.out]; omega⟩, fun _ _ => rfl, hn⟩, HB1.out.alloc hs1 _⟩
  · rw [heap_new rfl, cnt_none, HK.out]; rfl
  · rw [HK.out]; simp [wds_len]
  · rw [HK.out, List.toList_toArray, List.take_of_length_le (by rw [wds_len]; omega)]
set_option maxRecDepth 100000 in
theorem new_ok (w : World) (n : Nat) (hn : n ≤ 1048576) :
    Calls Tryd.prog 36 #[.int .i64 (n : Nat)] w fun e w' => ∃ S g, e = .returned (.tuple #[.pointer (some ⟨S, 0, none⟩), .nilIface]) ∧ w.heap.size ≤ S ∧ w.heap.size ≤ g ∧ SetAt w' S g (nw n) n (fun _ => false) ∧ Below w.heap.size w w' := by
  have h1 : ¬ (n : Int) < 0 := by omega
  have h2 : ¬ (1048576 : Int) < (n : Int) := by omega
  have HEM := hide (empty_any w n hn)
  go_enter Tryd.func36, Tryd.ntmps36
  go_wp2_with fail
  refine HEM.out.mono ?_
  rintro e w1 ⟨S, g, rfl, hS, hg, hs, hb⟩
  have HS := hide hs
  have HB := hide hb
  clear hs hb
  go_wp2_with fail
  go_ret2
  exact ⟨S, g, rfl, hS, hg, HS.out, HB.out⟩
set_option maxRecDepth 100000 in
theorem new_bad (w : World) (n : Int) (hn : n < 0 ∨ 1048576 < n) (a : Addr) (hE : ErrAt w 0 a) :
    Calls Tryd.prog 36 #[.int .i64 n] w fun e w' => e = .returned (.tuple #[.pointer none, .iface 153 (.pointer (some a))]) ∧ ∃ q, w' = w.drewN q := by
  unfold ErrAt at hE
  by_cases h0 : n < 0
  · clear hn
    go_enter Tryd.func36, Tryd.ntmps36
    go_wp2_with fail
    go_quiet (fail)
    go_wp2_with fail
    go_ret2
    exact ⟨rfl, _, rfl⟩
  · have h1 : (1048576 : Int) < n := by omega
    clear hn
    go_enter Tryd.func36, Tryd.ntmps36
    go_wp2_with fail
    go_quiet (fail)
    go_wp2_with fail
    go_ret2
    exact ⟨rfl, _, rfl⟩
/-- the members of a list -/
def mOf (zs : List Int) : Nat → Bool := fun i => decide ((i : Int) ∈ zs)
theorem mOf_nil : mOf [] = fun _ => false := by funext i; simp [mOf]
theorem mOf_snoc (zs : List Int) (i : Nat) : mOf (zs ++ [(i : Int)]) = put (mOf zs) i true := by
  funext k
  unfold mOf put
  by_cases h : k = i
  · subst h; simp
  · rw [if_neg h]; simp [show ¬ (k : Int) = (i : Int) by omega]
theorem put_same {m : Nat → Bool} {i : Nat} {b : Bool} (h : m i = b) : put m i b = m := by
  funext k
  unfold put
  split
  · rename_i e; rw [e, h]
  · rfl
/-- what Of answers -/
def OfOut (n : Int) (zs : List Int) (a : Addr) (B : Nat) (e : Ending) (w' : World) : Prop :=
  (∃ (N S g cap : Nat), n = (N : Int) ∧ N ≤ 1048576 ∧ (∀ z ∈ zs, 0 ≤ z ∧ z < n) ∧ e = .returned (.tuple #[.pointer (some ⟨S, 0, none⟩), .nilIface]) ∧ B ≤ S ∧ B ≤ g ∧ SetAt w' S g cap N (mOf zs)) ∨
  ((¬ (0 ≤ n ∧ n ≤ 1048576 ∧ ∀ z ∈ zs, 0 ≤ z ∧ z < n)) ∧ e = .returned (.tuple #[.pointer none, .iface 153 (.pointer (some a))]))
set_option maxRecDepth 100000 in
set_option maxHeartbeats 2000000 in
theorem of_any (w : World) (n : Int) (ao : Option Addr) (c : Nat) (zs : List Int) (hz : Ints w (.slice ao zs.length c) zs) (hl : zs.length ≤ 1152921504606846976) (a : Addr) (hE : ErrAt w 0 a) (hg : 0 < w.heap.size) :
    Calls Tryd.prog 12 #[.int .i64 n, .slice ao zs.length c] w fun e w' => OfOut n zs a w.heap.size e w' ∧ Below w.heap.size w w' := by
  have HZ := hide hz
  have HE := hide hE
  clear hz hE
  by_cases hn : 0 ≤ n ∧ n ≤ 1048576
  · obtain ⟨N, rfl⟩ : ∃ N : Nat, n = (N : Int) := ⟨n.toNat, by omega⟩
    have hN : N ≤ 1048576 := by omega
    have HNW := hide (new_ok w N hN)
    clear hn
    go_enter Tryd.func12, Tryd.ntmps12
    go_wp2_with fail
    refine HNW.out.mono ?_
    rintro e w1 ⟨S, g, rfl, hS, hgg, hs, hb⟩
    have HS := hide hs
    have HB := hide hb
    have hs1 := hb.size
    clear hs hb HNW
    go_wp2_with fail
    go_loopw [22] (fun k wr => ∃ i : Nat, k = .int .i64 (i : Nat) ∧ i ≤ zs.length ∧ (∀ z ∈ zs.take i, 0 ≤ z ∧ z < (N : Int)) ∧ SetAt wr S g (nw N) N (mOf (zs.take i)) ∧ Below w.heap.size w wr) (fun k _ => zs.length - (intOf k).toNat)
    case atStart => exact ⟨0, rfl, by omega, by simp, by rw [List.take_zero, mOf_nil]; exact HS.out, HB.out⟩
    case round =>
      obtain ⟨i, rfl, hi, hr, hst, hb⟩ := hrel
      have HR := hide hr
      have HST := hide hst
      have HBr := hide hb
      clear hr hst hb HS HB
      by_cases hlt : i < zs.length
      · obtain ⟨z, hx⟩ : ∃ z, zs[i]? = some z := ⟨_, List.getElem?_eq_getElem hlt⟩
        obtain ⟨ad, rfl, hc⟩ := ints_get (ints_keep HZ.out HBr.out) hx
        have hi1 : (i : Int) < (zs.length : Int) := by omega
        have HTK := hide (show zs.take (i + 1) = zs.take i ++ [z] from by rw [List.take_add_one, hx]; rfl)
        have HMEM := hide (List.mem_of_getElem? hx)
        clear hx
        by_cases hzr : 0 ≤ z ∧ z < (N : Int)
        · obtain ⟨j, rfl⟩ : ∃ j : Nat, z = (j : Int) := ⟨z.toNat, by omega⟩
          have hjN : j < N := by omega
          have HRN := hide (show ∀ z ∈ zs.take (i + 1), 0 ≤ z ∧ z < (N : Int) from by
            rw [HTK.out]
            intro z hz
            rcases List.mem_append.1 hz with hz | hz
            · exact HR.out z hz
            · simp at hz; subst hz; exact hzr)
          clear hzr
          cases hm : mOf (zs.take i) j with
          | true =>
            have HAD := hide (add_old wr HST.out j hjN hm)
            have HNX := hide (show SetAt wr S g (nw N) N (mOf (zs.take (i + 1))) from by rw [HTK.out, mOf_snoc, put_same hm]; exact HST.out)
            clear hm
            go_wp2_with fail
            refine HAD.out.mono ?_
            rintro e w2 ⟨rfl, rfl⟩
            go_wp2_with fail
            exact ⟨⟨i + 1, by simp, by omega, HRN.out, HNX.out, HBr.out⟩, by simp [intOf]; omega⟩
          | false =>
            have HAD := hide (add_new wr HST.out j hjN hm)
            have HEQ := hide (show put (mOf (zs.take i)) j true = mOf (zs.take (i + 1)) from by rw [HTK.out, mOf_snoc])
            clear hm
            go_wp2_with fail
            refine HAD.out.mono ?_
            rintro e w2 ⟨rfl, hst2, hf2⟩
            rw [HEQ.out] at hst2
            have HST2 := hide hst2
            have HB2 := hide (HBr.out.trans (hf2.below (B := w.heap.size) (fun k hk => by rcases hk with rfl | rfl <;> assumption) HBr.out.size))
            clear hst2 hf2
            go_wp2_with fail
            exact ⟨⟨i + 1, by simp, by omega, HRN.out, HST2.out, HB2.out⟩, by simp [intOf]; omega⟩
        · have HAD := hide (add_out wr HST.out z (by omega) a (err_below HE.out HBr.out hg))
          have HBAD := hide (show ¬ (0 ≤ (N : Int) ∧ (N : Int) ≤ 1048576 ∧ ∀ z ∈ zs, 0 ≤ z ∧ z < (N : Int)) from fun h => hzr (h.2.2 z HMEM.out))
          clear hzr
          go_wp2_with fail
          refine HAD.out.mono ?_
          rintro e w2 ⟨rfl, q, rfl⟩
          go_wp2_with fail
          go_ret2
          exact ⟨.inr ⟨HBAD.out, rfl⟩, below_drewN HBr.out q⟩
      · obtain rfl : i = zs.length := by omega
        go_wp2_with fail
        go_ret2
        refine ⟨.inl ⟨N, S, g, nw N, rfl, hN, ?_, rfl, hS, hgg, ?_⟩, HBr.out⟩
        · have := HR.out; rwa [List.take_length] at this
        · have := HST.out; rwa [List.take_length] at this
  · have HNW := hide (new_bad w n (by omega) a HE.out)
    have HBAD := hide (show ¬ (0 ≤ n ∧ n ≤ 1048576 ∧ ∀ z ∈ zs, 0 ≤ z ∧ z < n) from fun h => hn ⟨h.1, h.2.1⟩)
    clear hn
    go_enter Tryd.func12, Tryd.ntmps12
    go_wp2_with fail
    refine HNW.out.mono ?_
    rintro e w1 ⟨rfl, q, rfl⟩
    go_wp2_with fail
    go_ret2
    exact ⟨.inr ⟨HBAD.out, rfl⟩, below_drewN (Below.refl _ _) q⟩
end Go.Proofs.YtmkbbekeimnajaaDoor
