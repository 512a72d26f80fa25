/- texts of this proof, one behind the other: Rd3 Ri Fl La Tk -/
import Derived.Test.YtmkbbekeimnajaaDoorMPlays0
import Derived.Test.YtmkbbekeimnajaaDoorMPlays1
import Derived.Test.YtmkbbekeimnajaaDoorMPlays2
import Derived.Test.YtmkbbekeimnajaaDoorMPlays3
import Derived.Test.YtmkbbekeimnajaaDoorMPlays4
import Derived.Test.YtmkbbekeimnajaaDoorMPlays5
import Derived.Test.YtmkbbekeimnajaaDoorMPlays6
import Derived.Test.YtmkbbekeimnajaaDoorMPlays7
import Derived.StillTailTactics
/-! Rd3: a reader: a number up to a bound, the end -/
namespace Go.Proofs.YtmkbbekeimnajaaDoor
open Go.RowKit
def UptoOut (bs : List Nat) (p : Nat) (bv : Value) (e : Ending) (w' : World) : Prop :=
  (∃ n r, n ≤ 1048576 ∧ bs = Uv.uv n ++ r ∧ e = .returned (.tuple #[.int .i64 (n : Nat), .nilIface]) ∧ RdAt w' p (Uv.uv n).length bv bs.length) ∨
  ((∀ n r, n ≤ 1048576 → bs ≠ Uv.uv n ++ r) ∧ ∃ a, e = .returned (.tuple #[.int .i64 0, .iface 153 (.pointer (some a))]))
theorem no_uv {bs : List Nat} (h : ∀ k, Nm.num 10 0 bs = (k, 0) → 1048576 < Nm.val (bs.take k)) : ∀ n r, n ≤ 1048576 → bs ≠ Uv.uv n ++ r := by
  rintro n r hn rfl
  have h1 := Nm.num_uv n (by omega) r
  have h2 := h _ h1
  rw [List.take_left, Nm.val_uv n (by omega)] at h2
  omega
set_option maxRecDepth 100000 in
set_option maxHeartbeats 2000000 in
theorem upto_any (w : World) (p : Nat) (bv : Value) (bs : List Nat) (hR : RdAt w p 0 bv bs.length) (hs : Src w bv bs) (hl : bs.length ≤ 140737488355328) (E : Nat → Addr) (hE1 : ErrAt w 2 (E 2)) (hE2 : ErrAt w 3 (E 3)) (hE3 : ErrAt w 4 (E 4)) (hg : 4 < p) :
    Calls Tryd.prog 63 #[.pointer (some ⟨p, 0, none⟩), .int .i64 1048576] w fun e w' => UptoOut bs p bv e w' ∧ Below p w w' := by
  obtain ⟨h0, h1, h2⟩ := cells3 hR
  have hp := heap_lt hR
  have HU := hide (reader_uvarint w p p bv bs (Nat.le_refl _) hR hs hl E hE1 hE2 (by omega))
  have HS := hide hs
  have HE3 := hide hE3
  clear hR hs hE1 hE2 hE3
  go_enter Tryd.func63, Tryd.ntmps63
  go_wp2_with fail
  refine HU.out.mono ?_
  rintro e w1 ⟨ho, hb, hr⟩
  have HB := hide hb
  have HRR := hide hr
  clear hb hr h0 h1 h2 HU
  rcases ho with ⟨hk, rfl⟩ | ⟨hk, rfl⟩ | ⟨hk, rfl⟩
  · obtain ⟨k, hk2⟩ : ∃ k, (Nm.num 10 0 bs).1 = k := ⟨_, rfl⟩
    have hnum : Nm.num 10 0 bs = (k, 0) := Prod.ext hk2 hk
    have hR1 := HRR.out hk
    rw [hk2] at hR1 ⊢
    have hvl := Nm.val_ok hnum
    have hun := Nm.uv_of_num HS.out.1 hnum
    obtain ⟨v, hv⟩ : ∃ v, Nm.val (bs.take k) = v := ⟨_, rfl⟩
    rw [hv] at hvl hun ⊢
    have HNUM := hide hnum
    have HV := hide hv
    have HUN := hide hun
    have HR1 := hide hR1
    clear hk hk2 hnum hR1 hun hv HRR
    by_cases hle : v ≤ 1048576
    · have hle2 : ¬ (1048576 : Int) < (v : Int) := by omega
      have hwv : IntKind.i64.wrap (v : Int) = (v : Int) := by rw [IntKind.wrap_i64]; omega
      clear hvl
      go_wp2_with fail
      go_ret2
      refine ⟨.inl ⟨v, bs.drop k, hle, by rw [HUN.out, List.take_append_drop], rfl, ?_⟩, HB.out⟩
      have h := HR1.out
      have hkl : (Uv.uv v).length = k := by
        rw [HUN.out, List.length_take]
        have := (Nm.num_ok (by omega) HNUM.out).2.2.1
        omega
      rw [hkl]
      exact h
    · have hle2 : (1048576 : Int) < (v : Int) := by omega
      have HNO := hide (no_uv (bs := bs) (fun k' hk' => by rw [HNUM.out] at hk'; cases hk'; rw [HV.out]; omega))
      have hE := err_below HE3.out HB.out hg
      obtain ⟨h0, h1, h2⟩ := cells3 HR1.out
      have hf := free_at HR1.out 0
      have HB2 := hide (below_set (i := 0) HB.out (Nat.le_refl p) (.int .i64 0))
      have hE' : ErrAt (w1.setCell ⟨p, 0, none⟩ (.int .i64 0)) 4 (E 4) := err_below HE3.out HB2.out hg
      have HE' := hide hE'
      clear hE hE' hvl
      go_upto_region 7 with (fail)
      generalize w1.setCell ⟨p, 0, none⟩ (.int .i64 0) = w2 at *
      have hE := HE'.out
      unfold ErrAt at hE
      go_quiet (fail)
      go_wp2_with fail
      go_ret2
      exact ⟨.inr ⟨HNO.out, _, rfl⟩, below_drewN HB2.out _⟩
  · have HNO := hide (no_uv (bs := bs) (fun k' hk' => by rw [hk'] at hk; cases hk))
    clear hk HRR
    go_wp2_with fail
    go_ret2
    exact ⟨.inr ⟨HNO.out, _, rfl⟩, HB.out⟩
  · have HNO := hide (no_uv (bs := bs) (fun k' hk' => by rw [hk'] at hk; cases hk))
    clear hk HRR
    go_wp2_with fail
    go_ret2
    exact ⟨.inr ⟨HNO.out, _, rfl⟩, HB.out⟩
set_option maxRecDepth 100000 in
theorem done_yes (w : World) (p n : Nat) (bv : Value) (hR : RdAt w p n bv n) :
    Calls Tryd.prog 66 #[.pointer (some ⟨p, 0, none⟩)] w fun e w' => e = .returned .nilIface ∧ ∃ q, w' = w.drewN q := by
  obtain ⟨h0, h1, h2⟩ := cells3 hR
  clear hR
  go_enter Tryd.func66, Tryd.ntmps66
  go_wp2_with fail
  go_quiet (fail)
  go_wp2_with fail
  go_ret
  exact ⟨rfl, _, rfl⟩
set_option maxRecDepth 100000 in
theorem done_no (w : World) (p at_ n : Nat) (bv : Value) (hR : RdAt w p at_ bv n) (hlt : at_ < n) (a : Addr) (hE : ErrAt w 6 a) :
    Calls Tryd.prog 66 #[.pointer (some ⟨p, 0, none⟩)] w fun e w' => e = .returned (.iface 153 (.pointer (some a))) ∧ ∃ q, w' = w.drewN q := by
  obtain ⟨h0, h1, h2⟩ := cells3 hR
  have hi : (at_ : Int) < (n : Int) := by omega
  unfold ErrAt at hE
  clear hR
  go_enter Tryd.func66, Tryd.ntmps66
  go_wp2_with fail
  go_quiet (fail)
  go_wp2_with fail
  go_ret
  exact ⟨rfl, _, rfl⟩
end Go.Proofs.YtmkbbekeimnajaaDoor

/-! Ri: risingBelow -/
namespace Go.Proofs.YtmkbbekeimnajaaDoor
open Go.RowKit Ds
/-- place i stands right -/
def okAt (W : Nat) (ps : List Nat) (i : Nat) : Prop := ∀ x, ps[i]? = some x → x < W ∧ ∀ y, 0 < i → ps[i - 1]? = some y → y < x
theorem rising_ok {W : Nat} {ps : List Nat} : rising W ps ↔ ∀ i, i < ps.length → okAt W ps i := by
  constructor
  · intro h i hi x hx
    refine ⟨h.1 x (List.mem_of_getElem? hx), fun y h0 hy => ?_⟩
    refine h.2 (i - 1) y x hy ?_
    rw [show i - 1 + 1 = i by omega]
    exact hx
  · intro h
    refine ⟨fun x hx => ?_, fun k x y hx hy => ?_⟩
    · obtain ⟨i, hi⟩ := List.mem_iff_getElem?.1 hx
      exact (h i (get_lt' hi) x hi).1
    · exact (h (k + 1) (get_lt' hy) y hy).2 x (by omega) (by rw [Nat.add_sub_cancel]; exact hx)
set_option maxRecDepth 100000 in
set_option maxHeartbeats 2000000 in
theorem rising_yes (w : World) (ao : Option Addr) (n cap W : Nat) (ps : List Nat) (hS : Src w (.slice ao n cap) ps) (hn : ps.length = n) (hnl : n ≤ 1000000) (h : rising W ps) :
    Calls Tryd.prog 86 #[.slice ao n cap, .int .i64 (W : Nat)] w fun e w' => e = .returned (.bool true) ∧ w = w' := by
  have HS := hide hS
  have HN := hide hn
  have HR := hide (rising_ok.1 h)
  clear hS hn h
  go_enter Tryd.func86, Tryd.ntmps86
  go_wp2_with fail
  go_loop [9] (fun a => ∃ i : Nat, a = .int .i64 (i : Nat) ∧ i ≤ n) (fun a => n - (intOf a).toNat)
  case atStart => exact ⟨0, rfl, Nat.zero_le _⟩
  case round =>
    obtain ⟨i, rfl, hi⟩ := hrel
    by_cases hlt : i < n
    · obtain ⟨x, hx⟩ : ∃ x, ps[i]? = some x := ⟨_, List.getElem?_eq_getElem (by rw [HN.out]; exact hlt)⟩
      obtain ⟨ad, rfl, hc⟩ := src_cell HS.out hx
      have hx8 : x < 256 := HS.out.1 x (List.mem_of_getElem? hx)
      obtain ⟨h1, h2⟩ := HR.out i (by rw [HN.out]; exact hlt) x hx
      have hii : (i : Int) < (n : Int) := by omega
      have hxw : ¬ (W : Int) ≤ (x : Int) := by omega
      by_cases hpos : 0 < i
      · obtain ⟨k, hk⟩ : ∃ k, i - 1 = k := ⟨_, rfl⟩
        obtain ⟨y, hy⟩ : ∃ y, ps[k]? = some y := ⟨_, List.getElem?_eq_getElem (by rw [HN.out]; omega)⟩
        obtain ⟨ad', had, hcy⟩ := src_cell HS.out hy
        obtain rfl : ad = ad' := by simpa using had
        have hyx := h2 y hpos (by rw [hk]; exact hy)
        have hyxi : ¬ (x : Int) ≤ (y : Int) := by omega
        have hwk : IntKind.i64.wrap ((i : Int) - 1) = (k : Int) := by rw [IntKind.wrap_i64]; omega
        have hki : (i : Int) - 1 = (k : Int) := by omega
        have hkn : (k : Int) < (n : Int) := by omega
        have hii0 : (0 : Int) < (i : Int) := by omega
        clear h2 hx hy had hk
        go_wp2_with fail
        exact ⟨⟨i + 1, vi (by omega), by omega⟩, by simp only [intOf]; omega⟩
      · have hz : i = 0 := by omega
        have hzi : ¬ (0 : Int) < (i : Int) := by omega
        clear h2 hx hz
        go_wp2_with fail
        exact ⟨⟨i + 1, vi (by omega), by omega⟩, by simp only [intOf]; omega⟩
    · obtain rfl : n = i := by omega
      go_wp2_with fail
      go_ret
      exact ⟨rfl, rfl⟩
set_option maxRecDepth 100000 in
set_option maxHeartbeats 2000000 in
theorem rising_no (w : World) (ao : Option Addr) (n cap W : Nat) (ps : List Nat) (hS : Src w (.slice ao n cap) ps) (hn : ps.length = n) (hnl : n ≤ 1000000) (h : ¬ rising W ps) :
    Calls Tryd.prog 86 #[.slice ao n cap, .int .i64 (W : Nat)] w fun e w' => e = .returned (.bool false) ∧ w = w' := by
  have HS := hide hS
  have HN := hide hn
  obtain ⟨d, hd, hbad, hlow⟩ := first_diff (okAt W ps) ps.length (fun h' => h (rising_ok.2 h'))
  rw [hn] at hd
  have HBAD := hide hbad
  have HLOW := hide hlow
  clear hS hn h hbad hlow
  go_enter Tryd.func86, Tryd.ntmps86
  go_wp2_with fail
  go_loop [9] (fun a => ∃ i : Nat, a = .int .i64 (i : Nat) ∧ i ≤ d) (fun a => n - (intOf a).toNat)
  case atStart => exact ⟨0, rfl, Nat.zero_le _⟩
  case round =>
    obtain ⟨i, rfl, hi⟩ := hrel
    have hlt : i < n := by omega
    obtain ⟨x, hx⟩ : ∃ x, ps[i]? = some x := ⟨_, List.getElem?_eq_getElem (by rw [HN.out]; exact hlt)⟩
    obtain ⟨ad, rfl, hc⟩ := src_cell HS.out hx
    have hx8 : x < 256 := HS.out.1 x (List.mem_of_getElem? hx)
    have hii : (i : Int) < (n : Int) := by omega
    by_cases hid : i < d
    · obtain ⟨h1, h2⟩ := HLOW.out i hid x hx
      have hxw : ¬ (W : Int) ≤ (x : Int) := by omega
      by_cases hpos : 0 < i
      · obtain ⟨k, hk⟩ : ∃ k, i - 1 = k := ⟨_, rfl⟩
        obtain ⟨y, hy⟩ : ∃ y, ps[k]? = some y := ⟨_, List.getElem?_eq_getElem (by rw [HN.out]; omega)⟩
        obtain ⟨ad', had, hcy⟩ := src_cell HS.out hy
        obtain rfl : ad = ad' := by simpa using had
        have hyx := h2 y hpos (by rw [hk]; exact hy)
        have hyxi : ¬ (x : Int) ≤ (y : Int) := by omega
        have hwk : IntKind.i64.wrap ((i : Int) - 1) = (k : Int) := by rw [IntKind.wrap_i64]; omega
        have hki : (i : Int) - 1 = (k : Int) := by omega
        have hkn : (k : Int) < (n : Int) := by omega
        have hii0 : (0 : Int) < (i : Int) := by omega
        clear h2 hx hy had hk
        go_wp2_with fail
        exact ⟨⟨i + 1, vi (by omega), by omega⟩, by simp only [intOf]; omega⟩
      · have hz : i = 0 := by omega
        have hzi : ¬ (0 : Int) < (i : Int) := by omega
        clear h2 hx hz
        go_wp2_with fail
        exact ⟨⟨i + 1, vi (by omega), by omega⟩, by simp only [intOf]; omega⟩
    · obtain rfl : d = i := by omega
      by_cases hxw : W ≤ x
      · have hxwi : (W : Int) ≤ (x : Int) := by omega
        clear hx
        go_wp2_with fail
        go_ret
        exact ⟨rfl, rfl⟩
      · have hxwi : ¬ (W : Int) ≤ (x : Int) := by omega
        by_cases hpos : 0 < d
        · obtain ⟨k, hk⟩ : ∃ k, d - 1 = k := ⟨_, rfl⟩
          obtain ⟨y, hy⟩ : ∃ y, ps[k]? = some y := ⟨_, List.getElem?_eq_getElem (by rw [HN.out]; omega)⟩
          obtain ⟨ad', had, hcy⟩ := src_cell HS.out hy
          obtain rfl : ad = ad' := by simpa using had
          have hxy : x ≤ y := by
            by_cases h : x ≤ y
            · exact h
            · exact (HBAD.out (fun z hz => by
                rw [hx] at hz
                cases hz
                refine ⟨by omega, fun y' _ hy' => ?_⟩
                rw [hk, hy] at hy'
                cases hy'
                omega)).elim
          have hyxi : (x : Int) ≤ (y : Int) := by omega
          have hwk : IntKind.i64.wrap ((d : Int) - 1) = (k : Int) := by rw [IntKind.wrap_i64]; omega
          have hki : (d : Int) - 1 = (k : Int) := by omega
          have hkn : (k : Int) < (n : Int) := by omega
          have hii0 : (0 : Int) < (d : Int) := by omega
          clear hx hy had hk
          go_wp2_with fail
          go_ret
          exact ⟨rfl, rfl⟩
        · exact (HBAD.out (fun z hz => by rw [hx] at hz; cases hz; exact ⟨by omega, fun y h0 => absurd h0 hpos⟩)).elim
end Go.Proofs.YtmkbbekeimnajaaDoor

/-! Fl: filled -/
namespace Go.Proofs.YtmkbbekeimnajaaDoor
open Go.RowKit Ds
def fillF (b : Bool) (W : Nat) : Nat → Bool := fun i => b && decide (i < W)
theorem below_tt (W : Nat) : below (fun _ => true) W = fillF true W := by funext i; simp [below, fillF]
theorem fill_ff (W : Nat) : fillF false W = fun _ => false := by funext i; simp [fillF]
set_option maxRecDepth 100000 in
set_option maxHeartbeats 4000000 in
theorem filled_yes (w : World) (W : Nat) (hW : W ≤ 256) :
    Calls Tryd.prog 84 #[.agg #[.int .u8 0, .int .u8 0, .int .u8 0, .int .u8 0, .int .u8 0, .int .u8 0, .int .u8 0, .int .u8 0, .int .u8 0, .int .u8 0, .int .u8 0, .int .u8 0, .int .u8 0, .int .u8 0, .int .u8 0, .int .u8 0, .int .u8 0, .int .u8 0, .int .u8 0, .int .u8 0, .int .u8 0, .int .u8 0, .int .u8 0, .int .u8 0, .int .u8 0, .int .u8 0, .int .u8 0, .int .u8 0, .int .u8 0, .int .u8 0, .int .u8 0, .int .u8 0], .int .i64 (W : Nat), .bool true] w fun e w' => e = .returned (.agg (octs (fillF true W)).toArray) ∧ Below w.heap.size w w' := by
  have hq := ((Below.refl w.heap.size w).alloc (Nat.le_refl _) (.cells (octs (fun _ => false)).toArray 89)).alloc (by simp) (.cells (octs (fun _ => false)).toArray 89)
  have HB := hide hq
  have HA := hide (heap_alloc2_old w (.cells (octs (fun _ => false)).toArray 89) (.cells (octs (fun _ => false)).toArray 89))
  have HN := hide (heap_alloc2_new w (.cells (octs (fun _ => false)).toArray 89) (.cells (octs (fun _ => false)).toArray 89))
  rw [← octs_none] at hq HB HA HN
  have HZ := hide octs_none
  clear hq
  go_enter Tryd.func84, Tryd.ntmps84
  go_upto_region 2 with (fail)
  generalize (w.alloc _).alloc _ = w2 at *
  rw [HZ.out] at HA HN
  have hs2 := HB.out.size
  go_wp2_with fail
  go_loopw [10] (fun k wr => ∃ i : Nat, k = .int .i64 (i : Nat) ∧ i ≤ W ∧ wr.heap[w.heap.size]? = some (.cells (octs (below (fun _ => true) i)).toArray 89 (0, 0)) ∧ wr.heap[w.heap.size + 1]? = some (.cells (octs (fun _ => false)).toArray 89 (0, 0)) ∧ Below w.heap.size w wr) (fun k _ => W - (intOf k).toNat)
  case atStart => exact ⟨0, rfl, by omega, by rw [below_zero]; exact HA.out, HN.out, HB.out⟩
  case round =>
    obtain ⟨i, rfl, hi, hk1, hk2, hbr⟩ := hrel
    have HK1 := hide hk1
    have HK2 := hide hk2
    have HBr := hide hbr
    have hsr := hbr.size
    clear hk1 hk2 hbr HA HN HB
    by_cases hlt : i < W
    · have hi1 : (i : Int) < (W : Int) := by omega
      obtain ⟨q, hq⟩ : ∃ q, i / 8 = q := ⟨_, rfl⟩
      obtain ⟨r, hr⟩ : ∃ r, i % 8 = r := ⟨_, rfl⟩
      have hqi : (i : Int) / 8 = (q : Int) := by omega
      have hri : (i : Int) % 8 = (r : Int) := by omega
      have hq32 : q < 32 := by omega
      have hO := or_bit8 (below (fun _ => true) i) i
      rw [hq, hr, IntKind.wrap_u8] at hO
      have HPU := hide (show ((octs (below (fun _ => true) i)).toArray.setIfInBounds q (.int .u8 (oct (put (below (fun _ => true) i) i true) q : Nat))) = (octs (below (fun _ => true) (i + 1))).toArray from by rw [← hq, octs_put, below_yes rfl])
      have hcc : wr.cell? ⟨w.heap.size, q, none⟩ = some (.int .u8 (oct (below (fun _ => true) i) q : Nat)) := by
        rw [cell_at HK1.out]
        have := octs_get (below (fun _ => true) i) hq32
        simpa using this
      have hff := free_at HK1.out q
      have hr8 : r < 8 := by omega
      clear hq hr
      go_wp2_with fail
      go_region
      go_wp2_with fail
      refine ⟨⟨i + 1, by simp, by omega, ?_, heap_else HK2.out (by omega) _, (below_set HBr.out (by omega) _).drew⟩, by simp [intOf]; omega⟩
      show (wr.setCell ⟨w.heap.size, q, none⟩ (.int .u8 (oct (put (below (fun _ => true) i) i true) q : Nat))).heap[w.heap.size]? = _
      rw [heap_set HK1.out, HPU.out]
    · obtain rfl : W = i := by omega
      go_wp2_with (first
        | refine wpList_load_row rfl 89 (.tmp 3) rfl w.heap.size rfl 89 _ (0, 0) _ HK1.out Tryd.underlying89 rfl size89 ?_
        | refine wpList_store_row rfl 89 (.tmp 6) (.tmp 23) rfl (w.heap.size + 1) _ rfl rfl 89 _ HK2.out size89 rfl (octs_one _) ?_)
      have hset := setRow_heap wr (w.heap.size + 1) _ (octs (below (fun _ => true) W)).toArray 89 (0, 0) HK2.out
      refine bodyPost_ret (results_cell_row rfl _ _ (w.heap.size + 1) 89 _ (0, 0) _ rfl hset Tryd.underlying89 rfl size89) rfl ⟨?_, ?_⟩
      · rw [below_tt]
      · exact below_setRow HBr.out (by omega) _
set_option maxRecDepth 100000 in
set_option maxHeartbeats 4000000 in
theorem filled_no (w : World) (W : Nat) :
    Calls Tryd.prog 84 #[.agg #[.int .u8 0, .int .u8 0, .int .u8 0, .int .u8 0, .int .u8 0, .int .u8 0, .int .u8 0, .int .u8 0, .int .u8 0, .int .u8 0, .int .u8 0, .int .u8 0, .int .u8 0, .int .u8 0, .int .u8 0, .int .u8 0, .int .u8 0, .int .u8 0, .int .u8 0, .int .u8 0, .int .u8 0, .int .u8 0, .int .u8 0, .int .u8 0, .int .u8 0, .int .u8 0, .int .u8 0, .int .u8 0, .int .u8 0, .int .u8 0, .int .u8 0, .int .u8 0], .int .i64 (W : Nat), .bool false] w fun e w' => e = .returned (.agg (octs (fillF false W)).toArray) ∧ Below w.heap.size w w' := by
  have hq := ((Below.refl w.heap.size w).alloc (Nat.le_refl _) (.cells (octs (fun _ => false)).toArray 89)).alloc (by simp) (.cells (octs (fun _ => false)).toArray 89)
  have HB := hide hq
  have HA := hide (heap_alloc2_old w (.cells (octs (fun _ => false)).toArray 89) (.cells (octs (fun _ => false)).toArray 89))
  have HN := hide (heap_alloc2_new w (.cells (octs (fun _ => false)).toArray 89) (.cells (octs (fun _ => false)).toArray 89))
  rw [← octs_none] at hq HB HA HN
  have HZ := hide octs_none
  clear hq
  go_enter Tryd.func84, Tryd.ntmps84
  go_upto_region 1 with (fail)
  generalize (w.alloc _).alloc _ = w2 at *
  rw [HZ.out] at HA HN
  have hs2 := HB.out.size
  go_wp2_with (first
    | refine wpList_load_row rfl 89 (.tmp 3) rfl w.heap.size rfl 89 _ (0, 0) _ HA.out Tryd.underlying89 rfl size89 ?_
    | refine wpList_store_row rfl 89 (.tmp 6) (.tmp 23) rfl (w.heap.size + 1) _ rfl rfl 89 _ HN.out size89 rfl (octs_one _) ?_)
  have hset := setRow_heap w2 (w.heap.size + 1) _ (octs (fun _ => false)).toArray 89 (0, 0) HN.out
  refine bodyPost_ret (results_cell_row rfl _ _ (w.heap.size + 1) 89 _ (0, 0) _ rfl hset Tryd.underlying89 rfl size89) rfl ⟨?_, ?_⟩
  · rw [fill_ff]
  · exact below_setRow HB.out (by omega) _
end Go.Proofs.YtmkbbekeimnajaaDoor

/-! La: a block's members go into the set -/
namespace Go.Proofs.YtmkbbekeimnajaaDoor
open Go.RowKit Ds
def lay (m : Nat → Bool) (j : Nat) (f : Nat → Bool) (i : Nat) : Nat → Bool := fun k => m k || (decide (256 * j ≤ k) && decide (k < 256 * j + i) && f (k - 256 * j))
theorem lay_zero (m : Nat → Bool) (j : Nat) (f : Nat → Bool) : lay m j f 0 = m := by
  funext k
  unfold lay
  by_cases h : 256 * j ≤ k
  · rw [decide_eq_false (show ¬ k < 256 * j + 0 by omega)]; simp
  · rw [decide_eq_false h]; simp
theorem lay_no {m : Nat → Bool} {j : Nat} {f : Nat → Bool} {i : Nat} (h : f i = false) : lay m j f (i + 1) = lay m j f i := by
  funext k
  unfold lay
  by_cases e : k = 256 * j + i
  · subst e; rw [Nat.add_sub_cancel_left, h]; simp
  · have : decide (k < 256 * j + (i + 1)) = decide (k < 256 * j + i) := by
      by_cases h1 : k < 256 * j + i
      · rw [decide_eq_true h1, decide_eq_true (by omega)]
      · rw [decide_eq_false h1, decide_eq_false (by omega)]
    rw [this]
theorem lay_yes {m : Nat → Bool} {j : Nat} {f : Nat → Bool} {i : Nat} (h : f i = true) : put (lay m j f i) (256 * j + i) true = lay m j f (i + 1) := by
  funext k
  unfold put lay
  by_cases e : k = 256 * j + i
  · subst e; rw [if_pos rfl, Nat.add_sub_cancel_left, h, decide_eq_true (by omega), decide_eq_true (by omega)]; simp
  · rw [if_neg e]
    have : decide (k < 256 * j + (i + 1)) = decide (k < 256 * j + i) := by
      by_cases h1 : k < 256 * j + i
      · rw [decide_eq_true h1, decide_eq_true (by omega)]
      · rw [decide_eq_false h1, decide_eq_false (by omega)]
    rw [this]
theorem lay_new {m : Nat → Bool} {j i : Nat} {f : Nat → Bool} (hm : ∀ k, 256 * j ≤ k → m k = false) : lay m j f i (256 * j + i) = false := by
  unfold lay
  rw [hm _ (by omega), decide_eq_false (show ¬ 256 * j + i < 256 * j + i by omega)]
  simp
theorem lay_all {m : Nat → Bool} {n j : Nat} {f : Nat → Bool} (hm : ∀ k, 256 * j ≤ k → m k = false) (hf : ∀ i, i < 256 → f i = true → i < wid n j) : lay m j f 256 = setB m n j f := by
  funext k
  unfold lay setB
  by_cases h1 : 256 * j ≤ k
  · rw [decide_eq_true h1, hm k h1]
    by_cases h2 : k < 256 * j + wid n j
    · have := wid_le n j
      rw [decide_eq_true (by omega), if_pos ⟨h1, h2⟩]; simp
    · rw [if_neg (fun h => h2 h.2)]
      by_cases h3 : k < 256 * j + 256
      · have : f (k - 256 * j) = false := by
          cases h : f (k - 256 * j) with
          | false => rfl
          | true => have := hf _ (by omega) h; omega
        rw [this]; simp
      · rw [decide_eq_false h3]; simp
  · rw [decide_eq_false h1, if_neg (fun h => h1 h.1)]; simp
theorem nat_beq (a b : Nat) : ((a : Int) == (b : Int)) = decide (a = b) := by
  by_cases h : a = b
  · subst h; simp
  · rw [decide_eq_false h]; simp; omega
theorem cnt_hi {f : Nat → Bool} {W : Nat} (hW : W ≤ 256) (h : ∀ i, i < 256 → f i = true → i < W) : cnt f 256 = cnt f W := by
  obtain ⟨d, hd⟩ : ∃ d, 256 = W + d := ⟨256 - W, by omega⟩
  rw [hd, cnt_add, cnt_congr (k := fun _ => false) (n := d) (fun i hi => by
    cases hf : f (W + i) with
    | false => rfl
    | true => have := h _ (by omega) hf; omega), cnt_none, Nat.add_zero]
def LayOut (w' : World) (S g n : Nat) (m : Nat → Bool) (j : Nat) (f : Nat → Bool) (t D : Nat) (e : Ending) : Prop :=
  if D = 256 then e = .returned (.bool (decide (tagOf (wid n j) (cnt f (wid n j)) = t))) ∧ SetAt w' S g (nw n) n (setB m n j f) else e = .returned (.bool false)
set_option maxRecDepth 100000 in
set_option maxHeartbeats 4000000 in
theorem lay_any (w : World) {S g n : Nat} {m : Nat → Bool} (h : SetAt w S g (nw n) n m) (j t D : Nat) (f : Nat → Bool) (hj : 256 * j < n) (hm : ∀ k, 256 * j ≤ k → m k = false) (hD : D ≤ 256) (hgood : ∀ i, i < D → f i = true → i < wid n j) (hend : D < 256 → f D = true ∧ wid n j ≤ D) :
    Calls Tryd.prog 87 #[.pointer (some ⟨S, 0, none⟩), .agg (octs f).toArray, .int .i64 (wid n j : Nat), .int .i64 (j : Nat), .int .u8 (t : Nat)] w fun e w' => LayOut w' S g n m j f t D e ∧ Foot w w' (fun k => k = S ∨ k = g) := by
  have hsm := h.small
  have HS := hide h
  have HM := hide hm
  have HG := hide hgood
  have HE := hide hend
  obtain ⟨W, hW⟩ : ∃ W, wid n j = W := ⟨_, rfl⟩
  have hW256 : W ≤ 256 := by rw [← hW]; exact wid_le n j
  have hWn : 256 * j + W ≤ n := by rw [← hW]; unfold wid; omega
  have HWD := hide hW
  have hSg := h.ne
  have hSl := heap_lt h.hd
  have hgl : g < w.heap.size := by obtain ⟨cur, h, _⟩ := h.ws; exact heap_lt h
  have HH := hide (Half.of h)
  rw [hW]
  clear h hm hgood hend hW
  have hj4 : j ≤ 4096 := by omega
  go_enter Tryd.func87, Tryd.ntmps87
  go_upto_region 1 with (fail)
  have hA : (w.alloc (.cells (octs f).toArray 89)).heap[w.heap.size]? = some (.cells (octs f).toArray 89 (0, 0)) := heap_new rfl _
  have HA := hide hA
  have HF := hide ((Foot.refl w (fun k => k = S ∨ k = g)).keep ((Below.refl w.heap.size w).alloc (Nat.le_refl _) (.cells (octs f).toArray 89)))
  have HH1 := hide (HH.out.keep ((Below.refl w.heap.size w).alloc (Nat.le_refl _) (.cells (octs f).toArray 89)))
  clear hA
  generalize w.alloc (.cells (octs f).toArray 89) = w1 at *
  go_wp2_with fail
  go_loopw [11, 13] (fun c k wr => ∃ i : Nat, k = .int .i64 (i : Nat) ∧ c = .int .i64 (cnt f i : Nat) ∧ i ≤ D ∧ Half wr S g n (cnt m n) (wds (lay m j f i) (nw n)) ∧ wr.heap[w.heap.size]? = some (.cells (octs f).toArray 89 (0, 0)) ∧ cnt (lay m j f i) n = cnt m n + cnt f i ∧ Foot w wr (fun k => k = S ∨ k = g)) (fun _ k _ => 256 - (intOf k).toNat)
  case atStart => exact ⟨0, rfl, rfl, Nat.zero_le _, by rw [lay_zero]; exact HH1.out, HA.out, by rw [lay_zero]; rfl, HF.out⟩
  case round =>
    obtain ⟨i, rfl, rfl, hi, hh, ha, hcc, hf⟩ := hrel
    have HHr := hide hh
    have HAr := hide ha
    have HCC := hide hcc
    have HFr := hide hf
    clear hh ha hcc hf HA HF HH1
    by_cases hlt : i < 256
    · have hi1 : (i : Int) < 256 := by omega
      obtain ⟨q, hq⟩ : ∃ q, i / 8 = q := ⟨_, rfl⟩
      obtain ⟨r, hr⟩ : ∃ r, i % 8 = r := ⟨_, rfl⟩
      have hqi : (i : Int) / 8 = (q : Int) := by omega
      have hri : (i : Int) % 8 = (r : Int) := by omega
      have hq32 : q < 32 := by omega
      have hr8 : r < 8 := by omega
      have hA := has_bit8 f i
      rw [hq, hr] at hA
      have hcc : wr.cell? ⟨w.heap.size, q, none⟩ = some (.int .u8 (oct f q : Nat)) := by
        rw [cell_at HAr.out]
        have := octs_get f hq32
        simpa using this
      have hcf : cnt f i ≤ i := cnt_le f i
      clear hq hr
      cases hfi : f i with
      | false =>
        rw [hfi, if_neg (by decide)] at hA
        have HLN := hide (lay_no (m := m) (j := j) hfi)
        have HCN := hide (show cnt f (i + 1) = cnt f i by rw [cnt_succ, hfi]; simp)
        have hiD : i + 1 ≤ D := by
          by_cases h : i < D
          · omega
          · obtain rfl : i = D := by omega
            have := (HE.out hlt).1
            rw [hfi] at this; cases this
        clear hfi
        go_wp2_with fail
        exact ⟨⟨i + 1, vi (by omega), by rw [HCN.out], hiD, by rw [HLN.out]; exact HHr.out, HAr.out, by rw [HLN.out, HCN.out]; exact HCC.out, HFr.out⟩, by simp only [intOf]; omega⟩
      | true =>
        rw [hfi, if_pos rfl] at hA
        by_cases hiD : i < D
        · have hiW : i < W := by rw [← HWD.out]; exact HG.out i hiD hfi
          have hWi : ¬ (W : Int) ≤ (i : Int) := by omega
          obtain ⟨y, hy⟩ : ∃ y, 256 * j + i = y := ⟨_, rfl⟩
          have hyn : y < n := by omega
          have hyi : 256 * (j : Int) + (i : Int) = (y : Int) := by omega
          have HLY := hide (lay_yes (m := m) (j := j) hfi)
          rw [hy] at HLY
          have hnew := lay_new (i := i) (f := f) HM.out
          rw [hy] at hnew
          have hput := cnt_put (lay m j f i) y true n
          rw [hnew, HLY.out] at hput
          simp [hyn] at hput
          have HCN := hide (show cnt f (i + 1) = cnt f i + 1 by rw [cnt_succ, hfi]; simp)
          have HC2 := hide (show cnt (lay m j f (i + 1)) n = cnt m n + cnt f (i + 1) by have := HCC.out; have := HCN.out; omega)
          obtain ⟨q2, hq2⟩ : ∃ q2, y / 64 = q2 := ⟨_, rfl⟩
          obtain ⟨r2, hr2⟩ : ∃ r2, y % 64 = r2 := ⟨_, rfl⟩
          have hqn : q2 < nw n := by unfold nw; omega
          have hr64 : r2 < 64 := by omega
          have hyq : (y : Int) / 64 = (q2 : Int) := by omega
          have hyr : (y : Int) % 64 = (r2 : Int) := by omega
          have htq : (y : Int).tdiv 64 = (q2 : Int) := by rw [Int.tdiv_eq_ediv_of_nonneg (by omega)]; omega
          have htr : (y : Int).tmod 64 = (r2 : Int) := by rw [Int.tmod_eq_emod_of_nonneg (by omega)]; omega
          have hwj : IntKind.i64.wrap (256 * (j : Int)) = 256 * (j : Int) := by rw [IntKind.wrap_i64]; omega
          have hwy : IntKind.i64.wrap (y : Int) = (y : Int) := by rw [IntKind.wrap_i64]; omega
          have hwq : IntKind.i64.wrap (q2 : Int) = (q2 : Int) := by rw [IntKind.wrap_i64]; omega
          have hwc : IntKind.i64.wrap ((cnt f i : Int) + 1) = (cnt f i : Int) + 1 := by rw [IntKind.wrap_i64]; omega
          have hO := or_bit (lay m j f i) y
          rw [hq2, hr2, HLY.out] at hO
          obtain ⟨c0, c1, c2⟩ := cells3 HHr.out.hd
          have hwc2 := HHr.out.cell (wds_get (lay m j f i) hqn)
          have hw0 := hwc2.1
          have hw1 := hwc2.2
          have HW2 := hide (show Half ((wr.setCell ⟨g, q2, none⟩ (.int .u64 (word (lay m j f (i + 1)) q2 : Nat))).drew) S g n (cnt m n) (wds (lay m j f (i + 1)) (nw n)) from by
            have h := wds_put (lay m j f i) y (nw n) true
            rw [hq2, HLY.out] at h
            rw [← h]
            exact (HHr.out.word q2 _).keep (below_drewN (Below.refl _ _) 1))
          have HF2 := hide (show Foot w ((wr.setCell ⟨g, q2, none⟩ (.int .u64 (word (lay m j f (i + 1)) q2 : Nat))).drew) (fun k => k = S ∨ k = g) from (HFr.out.setCell _ _ (.inl (.inr rfl))).drew)
          have HA2 := hide (show ((wr.setCell ⟨g, q2, none⟩ (.int .u64 (word (lay m j f (i + 1)) q2 : Nat))).drew).heap[w.heap.size]? = some (.cells (octs f).toArray 89 (0, 0)) from heap_else HAr.out (by omega) _)
          have hnw := hqn
          obtain ⟨nwn, hnwn⟩ : ∃ k, nw n = k := ⟨_, rfl⟩
          rw [hnwn] at hnw c2
          have hnw16 : nwn ≤ 16384 := by rw [← hnwn]; unfold nw; omega
          clear hfi hnew hput hq2 hr2 hqn hwc2 hnwn hy
          go_wp2_with fail
          refine wp_region_still_tail 19 (by kernel_rfl) (by kernel_rfl) ?_
          simp only [List.take_succ_cons, List.take_zero, List.drop_succ_cons, List.drop_zero]
          repeat still_step
          refine wpStill_nil ?_
          go_wp2_with fail
          exact ⟨⟨i + 1, vi (by omega), by rw [HCN.out]; exact vi (by omega), hiD, HW2.out, HA2.out, HC2.out, HF2.out⟩, by simp only [intOf]; omega⟩
        · obtain rfl : i = D := by omega
          have hWi : (W : Int) ≤ (i : Int) := by have := (HE.out hlt).2; rw [HWD.out] at this; omega
          clear hfi
          go_wp2_with fail
          go_ret
          refine ⟨?_, HFr.out⟩
          unfold LayOut
          rw [if_neg (by omega)]
          rfl
    · obtain rfl : D = 256 := by omega
      obtain rfl : i = 256 := by omega
      have hset := lay_all (n := n) HM.out (fun i hi hfi => HG.out i hi hfi)
      have hchi := cnt_hi (W := W) hW256 (fun i hi hfi => by rw [← HWD.out]; exact HG.out i hi hfi)
      have hcle := cnt_le f W
      have hccs := HCC.out
      have hmn := cnt_le m n
      have hHH := HHr.out
      rw [hset, hchi] at hccs
      rw [hset] at hHH
      rw [hchi]
      obtain ⟨cf, hcf⟩ : ∃ cf, cnt f W = cf := ⟨_, rfl⟩
      obtain ⟨cm, hcm⟩ : ∃ cm, cnt m n = cm := ⟨_, rfl⟩
      rw [hcf, hcm] at hccs
      rw [hcf] at hcle ⊢
      rw [hcm] at hHH hmn
      have HCF := hide hcf
      have HX := hide hHH
      have HCS := hide hccs
      obtain ⟨c0, c1, c2⟩ := cells3 hHH.hd
      have hfc := free_at hHH.hd 1
      have hsum : IntKind.i64.wrap ((cm : Int) + (cf : Int)) = ((cnt (setB m n j f) n : Nat) : Int) := by rw [IntKind.wrap_i64]; omega
      have HFIN := hide (show SetAt (wr.setCell ⟨S, 1, none⟩ (.int .i64 (cnt (setB m n j f) n : Nat))) S g (nw n) n (setB m n j f) from
        (hHH.count (cnt (setB m n j f) n)).set hsm (fun k hk => by
          unfold setB
          rw [if_neg (by unfold wid; omega)]
          exact HM.out k (by omega)))
      have HFF := hide ((HFr.out.setCell ⟨S, 1, none⟩ (.int .i64 (cnt (setB m n j f) n : Nat)) (.inl (.inl rfl))))
      have HTG := hide (fun w => tag_any w W cf hW256 hcle)
      clear hset hchi hccs hHH hcf hcm
      go_wp2_with fail
      refine (HTG.out _).mono ?_
      rintro e wz ⟨rfl, rfl⟩
      go_wp2_with fail
      go_ret
      refine ⟨?_, HFF.out⟩
      unfold LayOut
      rw [if_pos rfl, HWD.out, HCF.out]
      refine ⟨?_, HFIN.out⟩
      rw [← nat_beq]
      rfl
end Go.Proofs.YtmkbbekeimnajaaDoor

/-! Tk: plain: what take reads; the slice of a whole array variable -/
namespace Go.Proofs.YtmkbbekeimnajaaDoor
open Go.RowKit Ds
theorem wpList_slice_all {P : Program} {ops : Array Oper} {rest : List Oper} {o : Oper} {a : Act} {w : World} {Q : Exit → Act → World → Prop} (hgd : o.guard = none) (ty : TypeId) (x : Operand) (ho : o.op = .slice ty x none none none)
    (g : Nat) (hx : a.eval x = .pointer (some ⟨g, 0, none⟩)) (N : Nat) (el : TypeId) (hu : P.underlying ty = some (.array N el)) (i : TypeInfo) (hi : P.info? el = some i) (hN : N ≠ 0)
    (h : wpList P ops Q rest (a.put o.dst (.slice (some ⟨g, 0, none⟩) N N)) w) : wpList P ops Q (o :: rest) a w :=
  wpList_plain hgd fun _ hK => by
    have hb : (⟨g, 0, none⟩ : Addr).add 0 = ⟨g, 0, none⟩ := by unfold Addr.add; split <;> simp_all
    unfold Oper.wp execOp
    simp only [ho, hx, Option.map, Instr.sliceAt, Instr.sureAddr, Instr.sliceBounds, Instr.sliceBound, Sem.run_bind, Sem.run_pure, Result.andThen_ok, run_underlying hu]
    simp [hN, sizeOf, typeInfo, hi, hb]
    exact hK _ _ h
theorem setB_congr {m : Nat → Bool} {n j : Nat} {f g : Nat → Bool} (h : ∀ i, i < wid n j → f i = g i) : setB m n j f = setB m n j g := by
  funext k
  unfold setB
  split
  · rename_i hk
    exact h _ (by omega)
  · rfl
theorem oct_num (ps : List Nat) (hx : ∀ x ∈ ps, x < 256) (j : Nat) : oct (bitAt ps) j = ps.getD j 0 := by
  unfold oct
  refine (num_ext ?_ fun i hi => ?_).symm
  · by_cases h : j < ps.length
    · rw [getD_lt h]; exact hx _ (List.getElem_mem h)
    · rw [getD_ge (by omega)]; decide
  · unfold bitAt
    rw [show (8 * j + i) / 8 = j by omega, show (8 * j + i) % 8 = i by omega]
theorem octs_bits (ps : List Nat) (hx : ∀ x ∈ ps, x < 256) (hl : ps.length ≤ 32) (N : Nat) (hN : N = 32) : splice (u8s (List.replicate N 0)) 0 (u8s ps) = octs (bitAt ps) := by
  unfold splice
  rw [List.take_zero, List.nil_append, Nat.zero_add]
  apply List.ext_getElem?
  intro j
  by_cases hj : j < 32
  · rw [octs_get _ hj, oct_num ps hx]
    by_cases h : j < ps.length
    · rw [List.getElem?_append_left (by rw [u8s_len]; exact h), getD_lt h]
      simp [u8s, h]
    · rw [List.getElem?_append_right (by rw [u8s_len]; omega), List.getElem?_drop, u8s_len, getD_ge (by omega)]
      have : ps.length + (j - ps.length) < N := by omega
      simp [u8s, this]
  · rw [List.getElem?_eq_none (by rw [List.length_append, List.length_drop, u8s_len, u8s_len, List.length_replicate]; omega), List.getElem?_eq_none (by rw [octs_len]; omega)]
/-- the members under way: each place turned -/
def flipT (b : Bool) (W : Nat) (ps : List Nat) : Nat → Bool := fun i => (fillF b W i) != (has ps i)
theorem flip_nil (b : Bool) (W : Nat) : flipT b W [] = fillF b W := by funext i; simp [flipT, has]
theorem flip_snoc {b : Bool} {W x : Nat} {ps : List Nat} (h : has ps x = false) : flipT b W (ps ++ [x]) = put (flipT b W ps) x (!flipT b W ps x) := by
  funext i
  unfold put flipT
  by_cases e : i = x
  · subst e
    rw [if_pos rfl, h]
    have : has (ps ++ [i]) i = true := by simp [has]
    rw [this]
    cases fillF b W i <;> rfl
  · rw [if_neg e]
    have : has (ps ++ [x]) i = has ps i := by simp [has, e]
    rw [this]
theorem has_take {W i x : Nat} {ps : List Nat} (h : rising W ps) (hx : ps[i]? = some x) : has (ps.take i) x = false := by
  unfold has
  rw [Bool.eq_false_iff]
  intro hc
  have hm : x ∈ ps.take i := by simpa using hc
  obtain ⟨k, hk⟩ := List.mem_iff_getElem?.1 hm
  rw [List.getElem?_take] at hk
  split at hk
  · rename_i hki
    have := rising_lt h (i - k - 1) k x x hk (by rw [show k + (i - k - 1) + 1 = i by omega]; exact hx)
    omega
  · cases hk
theorem flip_lt {b : Bool} {W : Nat} {ps : List Nat} (h : rising W ps) : ∀ i, i < 256 → flipT b W ps i = true → i < W := by
  intro i _ hi
  by_cases hw : i < W
  · exact hw
  · have h1 : fillF b W i = false := by unfold fillF; rw [decide_eq_false hw]; simp
    have h2 : has ps i = false := by
      unfold has
      rw [Bool.eq_false_iff]
      intro hc
      exact hw (h.1 i (by simpa using hc))
    unfold flipT at hi
    rw [h1, h2] at hi
    simp at hi
theorem flip_list {W : Nat} {ps : List Nat} : ∀ i, flipT false W ps i = has ps i := fun i => by unfold flipT fillF; simp
theorem flip_hole {W : Nat} {ps : List Nat} : ∀ i, i < W → flipT true W ps i = inv (has ps) i := fun i hi => by unfold flipT fillF inv; rw [decide_eq_true hi]; cases has ps i <;> rfl
/-- the forms, told apart -/
theorem took_inv {W : Nat} {b r : List Nat} {f : Nat → Bool} (h : Took W b f r) : (b = 0 :: r) ∨ (b = 1 :: r) ∨ (∃ k ps, b = 2 :: k :: (ps ++ r) ∧ ps.length = k + 1 ∧ rising W ps ∧ tagOf W (cnt (has ps) W) = 2) ∨
    (∃ k ps, b = 3 :: k :: (ps ++ r) ∧ ps.length = k + 1 ∧ rising W ps ∧ tagOf W (cnt (inv (has ps)) W) = 3) ∨
    (∃ ps, b = 4 :: (ps ++ r) ∧ ps.length = (W + 7) / 8 ∧ (∀ i, W ≤ i → i < 256 → bitAt ps i = false) ∧ tagOf W (cnt (bitAt ps) W) = 4) := by
  cases h with
  | none => exact .inl rfl
  | all => exact .inr (.inl rfl)
  | list k ps r h1 h2 h3 => exact .inr (.inr (.inl ⟨k, ps, rfl, h1, h2, h3⟩))
  | hole k ps r h1 h2 h3 => exact .inr (.inr (.inr (.inl ⟨k, ps, rfl, h1, h2, h3⟩)))
  | bits ps r h1 h2 h3 h4 => exact .inr (.inr (.inr (.inr ⟨ps, rfl, h1, h3, h4⟩)))
theorem xor_bit8 (m : Nat → Bool) (i : Nat) : bits .xor .u8 ((oct m (i / 8) : Nat) : Int) (IntKind.u8.wrap (2 ^ (i % 8))) = ((oct (put m i (!m i)) (i / 8) : Nat) : Int) := by
  have hw := oct_lt (put m i (!m i)) (i / 8)
  have hp : 2 ^ (i % 8) < 2 ^ 8 := Nat.pow_lt_pow_right (by omega) (Nat.mod_lt _ (by omega))
  have e1 : IntKind.u8.wrap ((2 : Int) ^ (i % 8)) = ((2 ^ (i % 8) : Nat) : Int) := by
    have e2 : (2 : Int) ^ (i % 8) = ((2 ^ (i % 8) : Nat) : Int) := by rw [Int.natCast_pow]; rfl
    rw [IntKind.wrap_u8, e2]
    generalize 2 ^ (i % 8) = p at hp ⊢
    omega
  have hx : (BitVec.ofNat 8 (oct m (i / 8)) ^^^ BitVec.ofNat 8 (2 ^ (i % 8))).toNat = oct (put m i (!m i)) (i / 8) := by
    refine num_ext (BitVec.isLt _) fun k hk => ?_
    rw [BitVec.testBit_toNat, BitVec.getLsbD_xor, BitVec.getLsbD_ofNat, BitVec.getLsbD_ofNat, oct_bit, Nat.testBit_two_pow]
    unfold put
    by_cases h : i % 8 = k
    · rw [if_pos (by omega)]; simp [h, hk, show 8 * (i / 8) + k = i by omega]
    · rw [if_neg (by omega)]; simp [h, hk]
  rw [e1]
  show IntKind.u8.wrap ((BitVec.ofInt 8 ((oct m (i / 8) : Nat) : Int) ^^^ BitVec.ofInt 8 ((2 ^ (i % 8) : Nat) : Int)).toNat : Int) = _
  rw [BitVec.ofInt_natCast, BitVec.ofInt_natCast, hx, IntKind.wrap_u8]
  omega
end Go.Proofs.YtmkbbekeimnajaaDoor
