/- ranks -/
import Derived.Test.YtmkbbekeimnajaaDoorNx
namespace Go.Proofs.YtmkbbekeimnajaaDoor
open Go.RowKit Ds
theorem cnt_off {m : Nat → Bool} {n : Nat} (h : ∀ i, n ≤ i → m i = false) {i : Nat} (hi : n ≤ i) : cnt m i = cnt m n := by
  obtain ⟨d, rfl⟩ : ∃ d, i = n + d := ⟨i - n, by omega⟩
  clear hi
  induction d with
  | zero => rfl
  | succ d ih => rw [← Nat.add_assoc, cnt_succ, ih, h _ (by omega)]; simp
theorem low_mask (x r : Nat) (hx : x < 18446744073709551616) (hr : r < 64) : bits .and .u64 (x : Int) (IntKind.u64.wrap (IntKind.u64.wrap (2 ^ r) - 1)) = ((x &&& (2 ^ r - 1) : Nat) : Int) := by
  have hp : 2 ^ r < 2 ^ 64 := Nat.pow_lt_pow_right (by omega) hr
  have hp1 : 1 ≤ 2 ^ r := Nat.one_le_two_pow
  have e2 : (2 : Int) ^ r = ((2 ^ r : Nat) : Int) := by rw [Int.natCast_pow]; rfl
  have e1 : IntKind.u64.wrap (IntKind.u64.wrap (2 ^ r) - 1) = ((2 ^ r - 1 : Nat) : Int) := by
    rw [IntKind.wrap_u64, IntKind.wrap_u64, e2]
    generalize 2 ^ r = p at hp hp1 ⊢
    omega
  rw [e1, bits_and_u64_nat _ _ hx (by omega)]
set_option maxRecDepth 100000 in
set_option maxHeartbeats 2000000 in
theorem rank_in (w : World) {S g cap n : Nat} {m : Nat → Bool} (h : SetAt w S g cap n m) (i : Nat) (h0 : 0 < i) (hi : i < n) :
    Calls Tryd.prog 18 #[.pointer (some ⟨S, 0, none⟩), .int .i64 (i : Nat)] w fun e w' => e = .returned (.int .i64 (cnt m i : Nat)) ∧ ∃ q, w' = w.drewN q := by
  obtain ⟨c0, c1, c2⟩ := cells3 h.hd
  have hsm := h.small
  have HS := hide h
  have hcap := h.cap
  have hnw := nw_le h
  have hol := ones_low m i
  obtain ⟨q, hq⟩ : ∃ q, i / 64 = q := ⟨_, rfl⟩
  obtain ⟨r, hr⟩ : ∃ r, i % 64 = r := ⟨_, rfl⟩
  rw [hq, hr] at hol
  have hqn : q < nw n := by unfold nw; omega
  have hr64 : r < 64 := by omega
  have hcw := h.cell hqn
  have hwl := word_lt' m q
  have hqi : (i : Int) / 64 = (q : Int) := by omega
  have hri : (i : Int) % 64 = (r : Int) := by omega
  have hz : ¬ i = 0 := by omega
  have hni : ¬ (n : Int) ≤ (i : Int) := by omega
  obtain ⟨y, hy, hym, hyl⟩ : ∃ y : Nat, word m q &&& (2 ^ r - 1) = y ∧ bits .and .u64 (word m q : Int) (IntKind.u64.wrap (IntKind.u64.wrap (2 ^ r) - 1)) = (y : Int) ∧ y < 18446744073709551616 :=
    ⟨_, rfl, low_mask _ _ hwl hr64, Nat.lt_of_le_of_lt Nat.and_le_left hwl⟩
  rw [hy] at hol
  have HMASK := hide hym
  have HON := hide (fun w => ones_any w y hyl)
  have HOL := hide hol
  have hcl := cnt_le m i
  have hq64 : q ≤ 16384 := by omega
  have HC0 := hide (show cnt m (64 * 0) = 0 from rfl)
  have y1 : (q : Int) ≤ (cap : Int) := by omega
  have y2 : q ≤ cap := by omega
  clear hq hr h hol hwl hy hym hyl
  go_enter Tryd.func18, Tryd.ntmps18
  go_wp2_with fail
  go_loop [5, 30] (fun k a => ∃ j : Nat, a = .int .i64 (j : Nat) ∧ j ≤ q ∧ k = .int .i64 (cnt m (64 * j) : Nat)) (fun _ a => q - (intOf a).toNat)
  case atStart => exact ⟨0, rfl, by omega, rfl⟩
  case round =>
    obtain ⟨j, rfl, hj, rfl⟩ := hrel
    by_cases hlt : j < q
    · have hcj := HS.out.cell (show j < nw n by omega)
      have hsu := cnt_words m j
      have HO := hide (ones_any w (word m j) (word_lt' m j))
      have hbl := cnt_le m (64 * j)
      have hbl2 := cnt_le m (64 * (j + 1))
      have hji : (j : Int) < (q : Int) := by omega
      have hsi : ((cnt m (64 * j) : Nat) : Int) + ((Go.Lib.onesCount (word m j) : Nat) : Int) = ((cnt m (64 * (j + 1)) : Nat) : Int) := by omega
      have HSI := hide hsi
      have hb3 : Go.Lib.onesCount (word m j) ≤ 2000000 := by omega
      clear hsu hcw hsi
      go_wp2_with fail
      refine HO.out.mono ?_
      rintro e wz ⟨rfl, rfl⟩
      go_wp2_with fail
      exact ⟨⟨j + 1, by simp, by omega, by rw [← HSI.out]⟩, by simp [intOf]; omega⟩
    · obtain rfl : j = q := by omega
      go_wp2_with fail
      have hmask := HMASK.out
      have hti : (i : Int).tmod 64 = (r : Int) := by rw [Int.tmod_eq_emod_of_nonneg (by omega)]; exact hri
      have hwj : IntKind.i64.wrap (j : Int) = (j : Int) := by rw [IntKind.wrap_i64]; omega
      have hws : IntKind.i64.wrap ((cnt m (64 * j) : Int) + (Go.Lib.onesCount y : Int)) = (cnt m i : Int) := by have := HOL.out; rw [IntKind.wrap_i64]; omega
      go_quiet ((go_at_call 45; with_reducible exact Calls.quiet_of_same ((HON.out _).mono (fun _ _ h => ⟨h.1, h.2.symm⟩))))
      go_wp2_with fail
      go_ret
      exact ⟨rfl, _, rfl⟩
set_option maxRecDepth 100000 in
theorem rank_any (w : World) {S g cap n : Nat} {m : Nat → Bool} (h : SetAt w S g cap n m) (i : Int) :
    Calls Tryd.prog 18 #[.pointer (some ⟨S, 0, none⟩), .int .i64 i] w fun e w' => e = .returned (.int .i64 (cnt m i.toNat : Nat)) ∧ ∃ q, w' = w.drewN q := by
  obtain ⟨c0, c1, c2⟩ := cells3 h.hd
  by_cases h0 : i ≤ 0
  · have e0 : cnt m i.toNat = 0 := by rw [show i.toNat = 0 by omega]; rfl
    have E0 := hide e0
    clear e0 h
    go_enter Tryd.func18, Tryd.ntmps18
    go_wp2_with fail
    go_ret
    exact ⟨ret_int (by rw [E0.out]; rfl), 0, rfl⟩
  · obtain ⟨k, rfl⟩ := Int.eq_ofNat_of_zero_le (show 0 ≤ i by omega)
    rw [Int.toNat_natCast]
    by_cases hi : k < n
    · exact rank_in w h k (by omega) hi
    · have e0 : cnt m k = cnt m n := cnt_off h.off (by omega)
      have hk0 : ¬ k = 0 := by omega
      have hkn : (n : Int) ≤ (k : Int) := by omega
      have E0 := hide e0
      clear e0 h h0 hi
      go_enter Tryd.func18, Tryd.ntmps18
      go_wp2_with fail
      go_ret
      exact ⟨ret_int (by rw [E0.out]), 0, rfl⟩
theorem and_pred (x y : Nat) (hx : x < 18446744073709551616) (h0 : x ≠ 0) (h : x &&& (x - 1) = y) : bits .and .u64 (x : Int) (IntKind.u64.wrap ((x : Int) - 1)) = (y : Int) := by
  have e1 : IntKind.u64.wrap ((x : Int) - 1) = ((x - 1 : Nat) : Int) := by rw [IntKind.wrap_u64]; omega
  rw [e1, bits_and_u64_nat _ _ hx (by omega), h]
theorem from_lt (f : Nat → Bool) (r : Nat) : from_ f r < 18446744073709551616 := num_lt 64 _
theorem vi {k : IntKind} {a b : Int} (h : a = b) : Value.int k a = Value.int k b := by rw [h]
theorem mem64_get {f : Nat → Bool} {r : Nat} (h : r < cnt f 64) : ∃ z, (Ds.mem f 64)[r]? = some z := ⟨_, List.getElem?_eq_getElem h⟩
set_option maxRecDepth 100000 in
set_option maxHeartbeats 2000000 in
theorem select_in (w : World) {S g cap n : Nat} {m : Nat → Bool} (h : SetAt w S g cap n m) (hT : DeBr w) (k x : Nat) (hk : (Ds.mem m n)[k]? = some x) :
    Calls Tryd.prog 19 #[.pointer (some ⟨S, 0, none⟩), .int .i64 (k : Nat)] w fun e w' => e = .returned (.tuple #[.int .i64 (x : Nat), .bool true]) ∧ w = w' := by
  obtain ⟨c0, c1, c2⟩ := cells3 h.hd
  have hsm := h.small
  have HS := hide h
  have HT := hide hT
  have hcap := h.cap
  have hnw := nw_le h
  have hkc : k < cnt m n := get_lt' hk
  have hcn := cnt_le m n
  have hk1 : ¬ (k : Int) < 0 := by omega
  have hk2 : ¬ ((cnt m n : Nat) : Int) ≤ (k : Int) := by omega
  have HK := hide hk
  clear hk h hT
  go_enter Tryd.func19, Tryd.ntmps19
  go_wp2_with fail
  go_loop [1, 6] (fun a b => ∃ j r : Nat, b = .int .i64 (j : Nat) ∧ a = .int .i64 (r : Nat) ∧ cnt m (64 * j) + r = k) (fun _ b => nw n - (intOf b).toNat)
  case atStart => exact ⟨0, k, rfl, rfl, by simp [cnt, Ds.mem]⟩
  case round =>
    obtain ⟨j, r, rfl, rfl, hjr⟩ := hrel
    have hjn : 64 * j < n := by
      by_cases h1 : 64 * j < n
      · exact h1
      · have := cnt_off HS.out.off (i := 64 * j) (by omega); omega
    have hjw : j < nw n := by unfold nw; omega
    have hcj := HS.out.cell hjw
    have hsu := cnt_words m j
    have HO := hide (ones_any w (word m j) (word_lt' m j))
    have how := ones_word m j
    have hol : Go.Lib.onesCount (word m j) ≤ 64 := by rw [how]; exact cnt_le _ _
    have HOW := hide how
    have HJR := hide hjr
    have hrk : r ≤ k := by omega
    have hji : (j : Int) < (nw n : Int) := by omega
    have hj16 : j ≤ 16384 := by omega
    clear how
    by_cases hle : Go.Lib.onesCount (word m j) ≤ r
    · have hlei : ((Go.Lib.onesCount (word m j) : Nat) : Int) ≤ (r : Int) := by omega
      have HJR2 := hide (show cnt m (64 * (j + 1)) + (r - Go.Lib.onesCount (word m j)) = k by omega)
      clear hsu hjr
      go_wp2_with fail
      refine HO.out.mono ?_
      rintro e wz ⟨rfl, rfl⟩
      go_wp2_with fail
      refine HO.out.mono ?_
      rintro e wz ⟨rfl, rfl⟩
      go_wp2_with fail
      exact ⟨⟨j + 1, r - Go.Lib.onesCount (word m j), vi (by omega), vi (by omega), HJR2.out⟩, by simp only [intOf]; omega⟩
    · have hlei : ¬ ((Go.Lib.onesCount (word m j) : Nat) : Int) ≤ (r : Int) := by omega
      obtain ⟨f, hf⟩ : ∃ f, (fun k => m (64 * j + k)) = f := ⟨_, rfl⟩
      have HF := hide hf
      have hrc : r < cnt f 64 := by rw [← hf]; have := HOW.out; omega
      have HRC := hide hrc
      have hfz : word m j = from_ f 0 := by rw [from_zero, ← hf]; rfl
      have hr64 : r ≤ 64 := by have := cnt_le f 64; omega
      have HFZ := hide hfz
      clear hsu hjr hrc hf hfz
      go_wp2_with fail
      refine HO.out.mono ?_
      rintro e wz ⟨rfl, rfl⟩
      rw [HFZ.out] at hcj
      clear HO HOW HFZ
      go_wp2_with fail
      clear hcj hlei hle hol
      go_loop [1, 7] (fun a b => ∃ t : Nat, a = .int .i64 (r - t : Nat) ∧ b = .int .u64 (from_ f t : Nat) ∧ t ≤ r) (fun a _ => (intOf a).toNat)
      case atStart => exact ⟨0, rfl, rfl, by omega⟩
      case round =>
        obtain ⟨t, rfl, rfl, htr⟩ := hrel
        obtain ⟨d, rfl⟩ : ∃ d, r = t + d := ⟨r - t, by omega⟩
        rw [Nat.add_sub_cancel_left]
        obtain ⟨z, hz⟩ := mem64_get (f := f) (r := t) (by have := HRC.out; omega)
        obtain ⟨hb1, hb2⟩ := from_low hz
        have hne : from_ f t ≠ 0 := by intro e; rw [e] at hb1; simp at hb1
        have hlt := from_lt f t
        by_cases hd : d = 0
        · subst hd
          rw [Nat.add_zero] at HJR
          have hz64 : z < 64 := mem_lt (List.mem_of_getElem? hz)
          have hct := ctz_at z _ hz64 hb1 hb2
          have HC := hide (ctz_any w _ hlt hne HT.out)
          rw [hct] at HC
          have hzz := (mem_get f 64 t z).1 hz
          have hx : x = 64 * j + z := by
            have h1 : m (64 * j + z) = true := by have := hzz.2.1; rw [← HF.out] at this; exact this
            have h2 : cnt m (64 * j + z) = k := by rw [cnt_add, HF.out, hzz.2.2]; exact HJR.out
            have h3 : 64 * j + z < n := by
              by_cases h4 : 64 * j + z < n
              · exact h4
              · have := HS.out.off _ (Nat.le_of_not_lt h4); rw [h1] at this; cases this
            have := (mem_get m n k (64 * j + z)).2 ⟨h3, h1, h2⟩
            rw [HK.out] at this
            exact Option.some.inj this
          have HX := hide hx
          have hw1 : IntKind.i64.wrap (64 * (j : Int)) = 64 * (j : Int) := by rw [IntKind.wrap_i64]; omega
          clear hct hzz hb1 hb2 hne hlt hx hz
          go_wp2_with fail
          refine HC.out.mono ?_
          rintro e wz ⟨rfl, rfl⟩
          go_wp2_with fail
          go_ret2
          exact ⟨by rw [HX.out]; simp, rfl⟩
        · have hd0 : 0 < (d : Int) := by omega
          have hd1 : 0 < d := by omega
          have hap := and_pred _ _ hlt hne (from_next hz)
          have HE := hide (show d - 1 = (t + d) - (t + 1) by omega)
          clear hb1 hb2 hne hlt hz hd
          go_wp2_with fail
          exact ⟨⟨t + 1, vi (by omega), rfl, by omega⟩, by simp only [intOf]; omega⟩
def SelOut (m : Nat → Bool) (n : Nat) (k : Int) (e : Ending) : Prop :=
  match (if k < 0 then none else (Ds.mem m n)[k.toNat]?) with
  | some x => e = .returned (.tuple #[.int .i64 (x : Nat), .bool true])
  | none => e = .returned (.tuple #[.int .i64 0, .bool false])
set_option maxRecDepth 100000 in
theorem select_any (w : World) {S g cap n : Nat} {m : Nat → Bool} (h : SetAt w S g cap n m) (hT : DeBr w) (k : Int) :
    Calls Tryd.prog 19 #[.pointer (some ⟨S, 0, none⟩), .int .i64 k] w fun e w' => SelOut m n k e ∧ w = w' := by
  obtain ⟨c0, c1, c2⟩ := cells3 h.hd
  unfold SelOut
  by_cases h0 : k < 0
  · rw [if_pos h0]
    clear h hT
    go_enter Tryd.func19, Tryd.ntmps19
    go_wp2_with fail
    go_ret2
    exact ⟨rfl, rfl⟩
  · rw [if_neg h0]
    obtain ⟨j, rfl⟩ := Int.eq_ofNat_of_zero_le (show 0 ≤ k by omega)
    rw [Int.toNat_natCast]
    cases hx : (Ds.mem m n)[j]? with
    | some x => exact select_in w h hT j x hx
    | none =>
      have hle : cnt m n ≤ j := List.getElem?_eq_none_iff.1 hx
      have hle2 : ((cnt m n : Nat) : Int) ≤ (j : Int) := by omega
      clear hx h hT
      go_enter Tryd.func19, Tryd.ntmps19
      go_wp2_with fail
      go_ret2
      exact ⟨rfl, rfl⟩
end Go.Proofs.YtmkbbekeimnajaaDoor
