/- risingBelow -/
import Derived.Test.YtmkbbekeimnajaaDoorEq
import Derived.Test.YtmkbbekeimnajaaDoorRd3
namespace Go.Proofs.YtmkbbekeimnajaaDoor
open Go.RowKit Ds
/-- place i stands right -/
def okAt (W : Nat) (ps : List Nat) (i : Nat) : Prop := ∀ x, ps[i]? = some x → x < W ∧ ∀ y, 0 < i → ps[i - 1]? = some y → y < x
theorem rising_ok {W : Nat} {ps : List Nat} : rising W ps ↔ ∀ i, i < ps.length → okAt W ps i := by
  constructor
  · intro h i hi x hx
    refine ⟨h.1 x (List.mem_of_getElem? hx), fun y h0 hy => ?_⟩
    refine h.2 (i - 1) y x hy ?_
    rw [show i - 1 + 1 = i by omega]
    exact hx
  · intro h
    refine ⟨fun x hx => ?_, fun k x y hx hy => ?_⟩
    · obtain ⟨i, hi⟩ := List.mem_iff_getElem?.1 hx
      exact (h i (get_lt' hi) x hi).1
    · exact (h (k + 1) (get_lt' hy) y hy).2 x (by omega) (by rw [Nat.add_sub_cancel]; exact hx)
set_option maxRecDepth 100000 in
set_option maxHeartbeats 2000000 in
theorem rising_yes (w : World) (ao : Option Addr) (n cap W : Nat) (ps : List Nat) (hS : Src w (.slice ao n cap) ps) (hn : ps.length = n) (hnl : n ≤ 1000000) (h : rising W ps) :
    Calls Tryd.prog 86 #[.slice ao n cap, .int .i64 (W : Nat)] w fun e w' => e = .returned (.bool true) ∧ w = w' := by
  have HS := hide hS
  have HN := hide hn
  have HR := hide (rising_ok.1 h)
  clear hS hn h
  go_enter Tryd.func86, Tryd.ntmps86
  go_wp2_with fail
  go_loop [9] (fun a => ∃ i : Nat, a = .int .i64 (i : Nat) ∧ i ≤ n) (fun a => n - (intOf a).toNat)
  case atStart => exact ⟨0, rfl, Nat.zero_le _⟩
  case round =>
    obtain ⟨i, rfl, hi⟩ := hrel
    by_cases hlt : i < n
    · obtain ⟨x, hx⟩ : ∃ x, ps[i]? = some x := ⟨_, List.getElem?_eq_getElem (by rw [HN.out]; exact hlt)⟩
      obtain ⟨ad, rfl, hc⟩ := src_cell HS.out hx
      have hx8 : x < 256 := HS.out.1 x (List.mem_of_getElem? hx)
      obtain ⟨h1, h2⟩ := HR.out i (by rw [HN.out]; exact hlt) x hx
      have hii : (i : Int) < (n : Int) := by omega
      have hxw : ¬ (W : Int) ≤ (x : Int) := by omega
      by_cases hpos : 0 < i
      · obtain ⟨k, hk⟩ : ∃ k, i - 1 = k := ⟨_, rfl⟩
        obtain ⟨y, hy⟩ : ∃ y, ps[k]? = some y := ⟨_, List.getElem?_eq_getElem (by rw [HN.out]; omega)⟩
        obtain ⟨ad', had, hcy⟩ := src_cell HS.out hy
        obtain rfl : ad = ad' := by simpa using had
        have hyx := h2 y hpos (by rw [hk]; exact hy)
        have hyxi : ¬ (x : Int) ≤ (y : Int) := by omega
        have hwk : IntKind.i64.wrap ((i : Int) - 1) = (k : Int) := by rw [IntKind.wrap_i64]; omega
        have hki : (i : Int) - 1 = (k : Int) := by omega
        have hkn : (k : Int) < (n : Int) := by omega
        have hii0 : (0 : Int) < (i : Int) := by omega
        clear h2 hx hy had hk
        go_wp2_with fail
        exact ⟨⟨i + 1, vi (by omega), by omega⟩, by simp only [intOf]; omega⟩
      · have hz : i = 0 := by omega
        have hzi : ¬ (0 : Int) < (i : Int) := by omega
        clear h2 hx hz
        go_wp2_with fail
        exact ⟨⟨i + 1, vi (by omega), by omega⟩, by simp only [intOf]; omega⟩
    · obtain rfl : n = i := by omega
      go_wp2_with fail
      go_ret
      exact ⟨rfl, rfl⟩
set_option maxRecDepth 100000 in
set_option maxHeartbeats 2000000 in
theorem rising_no (w : World) (ao : Option Addr) (n cap W : Nat) (ps : List Nat) (hS : Src w (.slice ao n cap) ps) (hn : ps.length = n) (hnl : n ≤ 1000000) (h : ¬ rising W ps) :
    Calls Tryd.prog 86 #[.slice ao n cap, .int .i64 (W : Nat)] w fun e w' => e = .returned (.bool false) ∧ w = w' := by
  have HS := hide hS
  have HN := hide hn
  obtain ⟨d, hd, hbad, hlow⟩ := first_diff (okAt W ps) ps.length (fun h' => h (rising_ok.2 h'))
  rw [hn] at hd
  have HBAD := hide hbad
  have HLOW := hide hlow
  clear hS hn h hbad hlow
  go_enter Tryd.func86, Tryd.ntmps86
  go_wp2_with fail
  go_loop [9] (fun a => ∃ i : Nat, a = .int .i64 (i : Nat) ∧ i ≤ d) (fun a => n - (intOf a).toNat)
  case atStart => exact ⟨0, rfl, Nat.zero_le _⟩
  case round =>
    obtain ⟨i, rfl, hi⟩ := hrel
    have hlt : i < n := by omega
    obtain ⟨x, hx⟩ : ∃ x, ps[i]? = some x := ⟨_, List.getElem?_eq_getElem (by rw [HN.out]; exact hlt)⟩
    obtain ⟨ad, rfl, hc⟩ := src_cell HS.out hx
    have hx8 : x < 256 := HS.out.1 x (List.mem_of_getElem? hx)
    have hii : (i : Int) < (n : Int) := by omega
    by_cases hid : i < d
    · obtain ⟨h1, h2⟩ := HLOW.out i hid x hx
      have hxw : ¬ (W : Int) ≤ (x : Int) := by omega
      by_cases hpos : 0 < i
      · obtain ⟨k, hk⟩ : ∃ k, i - 1 = k := ⟨_, rfl⟩
        obtain ⟨y, hy⟩ : ∃ y, ps[k]? = some y := ⟨_, List.getElem?_eq_getElem (by rw [HN.out]; omega)⟩
        obtain ⟨ad', had, hcy⟩ := src_cell HS.out hy
        obtain rfl : ad = ad' := by simpa using had
        have hyx := h2 y hpos (by rw [hk]; exact hy)
        have hyxi : ¬ (x : Int) ≤ (y : Int) := by omega
        have hwk : IntKind.i64.wrap ((i : Int) - 1) = (k : Int) := by rw [IntKind.wrap_i64]; omega
        have hki : (i : Int) - 1 = (k : Int) := by omega
        have hkn : (k : Int) < (n : Int) := by omega
        have hii0 : (0 : Int) < (i : Int) := by omega
        clear h2 hx hy had hk
        go_wp2_with fail
        exact ⟨⟨i + 1, vi (by omega), by omega⟩, by simp only [intOf]; omega⟩
      · have hz : i = 0 := by omega
        have hzi : ¬ (0 : Int) < (i : Int) := by omega
        clear h2 hx hz
        go_wp2_with fail
        exact ⟨⟨i + 1, vi (by omega), by omega⟩, by simp only [intOf]; omega⟩
    · obtain rfl : d = i := by omega
      by_cases hxw : W ≤ x
      · have hxwi : (W : Int) ≤ (x : Int) := by omega
        clear hx
        go_wp2_with fail
        go_ret
        exact ⟨rfl, rfl⟩
      · have hxwi : ¬ (W : Int) ≤ (x : Int) := by omega
        by_cases hpos : 0 < d
        · obtain ⟨k, hk⟩ : ∃ k, d - 1 = k := ⟨_, rfl⟩
          obtain ⟨y, hy⟩ : ∃ y, ps[k]? = some y := ⟨_, List.getElem?_eq_getElem (by rw [HN.out]; omega)⟩
          obtain ⟨ad', had, hcy⟩ := src_cell HS.out hy
          obtain rfl : ad = ad' := by simpa using had
          have hxy : x ≤ y := by
            by_cases h : x ≤ y
            · exact h
            · exact (HBAD.out (fun z hz => by
                rw [hx] at hz
                cases hz
                refine ⟨by omega, fun y' _ hy' => ?_⟩
                rw [hk, hy] at hy'
                cases hy'
                omega)).elim
          have hyxi : (x : Int) ≤ (y : Int) := by omega
          have hwk : IntKind.i64.wrap ((d : Int) - 1) = (k : Int) := by rw [IntKind.wrap_i64]; omega
          have hki : (d : Int) - 1 = (k : Int) := by omega
          have hkn : (k : Int) < (n : Int) := by omega
          have hii0 : (0 : Int) < (d : Int) := by omega
          clear hx hy had hk
          go_wp2_with fail
          go_ret
          exact ⟨rfl, rfl⟩
        · exact (HBAD.out (fun z hz => by rw [hx] at hz; cases hz; exact ⟨by omega, fun y h0 => absurd h0 hpos⟩)).elim
end Go.Proofs.YtmkbbekeimnajaaDoor
