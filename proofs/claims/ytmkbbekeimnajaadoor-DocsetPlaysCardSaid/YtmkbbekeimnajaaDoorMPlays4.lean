/- texts of this proof, one behind the other: Rk Be Bo Mx Pl Pl2 Wk Bo2 Sa -/
import Derived.Test.YtmkbbekeimnajaaDoorMPlays0
import Derived.Test.YtmkbbekeimnajaaDoorMPlays1
import Derived.Test.YtmkbbekeimnajaaDoorMPlays2
import Derived.Test.YtmkbbekeimnajaaDoorMPlays3
import Derived.Laws.BytesArg
import Derived.StillTailTactics
import Derived.Laws.Rows
import Derived.Laws.Tables
/-! Rk: ranks -/
namespace Go.Proofs.YtmkbbekeimnajaaDoor
open Go.RowKit Ds
theorem cnt_off {m : Nat → Bool} {n : Nat} (h : ∀ i, n ≤ i → m i = false) {i : Nat} (hi : n ≤ i) : cnt m i = cnt m n := by
  obtain ⟨d, rfl⟩ : ∃ d, i = n + d := ⟨i - n, by omega⟩
  clear hi
  induction d with
  | zero => rfl
  | succ d ih => rw [← Nat.add_assoc, cnt_succ, ih, h _ (by omega)]; simp
theorem low_mask (x r : Nat) (hx : x < 18446744073709551616) (hr : r < 64) : bits .and .u64 (x : Int) (IntKind.u64.wrap (IntKind.u64.wrap (2 ^ r) - 1)) = ((x &&& (2 ^ r - 1) : Nat) : Int) := by
  have hp : 2 ^ r < 2 ^ 64 := Nat.pow_lt_pow_right (by omega) hr
  have hp1 : 1 ≤ 2 ^ r := Nat.one_le_two_pow
  have e2 : (2 : Int) ^ r = ((2 ^ r : Nat) : Int) := by rw [Int.natCast_pow]; rfl
  have e1 : IntKind.u64.wrap (IntKind.u64.wrap (2 ^ r) - 1) = ((2 ^ r - 1 : Nat) : Int) := by
    rw [IntKind.wrap_u64, IntKind.wrap_u64, e2]
    generalize 2 ^ r = p at hp hp1 ⊢
    omega
  rw [e1, bits_and_u64_nat _ _ hx (by omega)]
set_option maxRecDepth 100000 in
set_option maxHeartbeats 2000000 in
theorem rank_in (w : World) {S g cap n : Nat} {m : Nat → Bool} (h : SetAt w S g cap n m) (i : Nat) (h0 : 0 < i) (hi : i < n) :
    Calls Tryd.prog 18 #[.pointer (some ⟨S, 0, none⟩), .int .i64 (i : Nat)] w fun e w' => e = .returned (.int .i64 (cnt m i : Nat)) ∧ ∃ q, w' = w.drewN q := by
  obtain ⟨c0, c1, c2⟩ := cells3 h.hd
  have hsm := h.small
  have HS := hide h
  have hcap := h.cap
  have hnw := nw_le h
  have hol := ones_low m i
  obtain ⟨q, hq⟩ : ∃ q, i / 64 = q := ⟨_, rfl⟩
  obtain ⟨r, hr⟩ : ∃ r, i % 64 = r := ⟨_, rfl⟩
  rw [hq, hr] at hol
  have hqn : q < nw n := by unfold nw; omega
  have hr64 : r < 64 := by omega
  have hcw := h.cell hqn
  have hwl := word_lt' m q
  have hqi : (i : Int) / 64 = (q : Int) := by omega
  have hri : (i : Int) % 64 = (r : Int) := by omega
  have hz : ¬ i = 0 := by omega
  have hni : ¬ (n : Int) ≤ (i : Int) := by omega
  obtain ⟨y, hy, hym, hyl⟩ : ∃ y : Nat, word m q &&& (2 ^ r - 1) = y ∧ bits .and .u64 (word m q : Int) (IntKind.u64.wrap (IntKind.u64.wrap (2 ^ r) - 1)) = (y : Int) ∧ y < 18446744073709551616 :=
    ⟨_, rfl, low_mask _ _ hwl hr64, Nat.lt_of_le_of_lt Nat.and_le_left hwl⟩
  rw [hy] at hol
  have HMASK := hide hym
  have HON := hide (fun w => ones_any w y hyl)
  have HOL := hide hol
  have hcl := cnt_le m i
  have hq64 : q ≤ 16384 := by omega
  have HC0 := hide (show cnt m (64 * 0) = 0 from rfl)
  have y1 : (q : Int) ≤ (cap : Int) := by omega
  have y2 : q ≤ cap := by omega
  clear hq hr h hol hwl hy hym hyl
  go_enter Tryd.func18, Tryd.ntmps18
  go_wp2_with fail
  go_loop [5, 30] (fun k a => ∃ j : Nat, a = .int .i64 (j : Nat) ∧ j ≤ q ∧ k = .int .i64 (cnt m (64 * j) : Nat)) (fun _ a => q - (intOf a).toNat)
  case atStart => exact ⟨0, rfl, by omega, rfl⟩
  case round =>
    obtain ⟨j, rfl, hj, rfl⟩ := hrel
    by_cases hlt : j < q
    · have hcj := HS.out.cell (show j < nw n by omega)
      have hsu := cnt_words m j
      have HO := hide (ones_any w (word m j) (word_lt' m j))
      have hbl := cnt_le m (64 * j)
      have hbl2 := cnt_le m (64 * (j + 1))
      have hji : (j : Int) < (q : Int) := by omega
      have hsi : ((cnt m (64 * j) : Nat) : Int) + ((Go.Lib.onesCount (word m j) : Nat) : Int) = ((cnt m (64 * (j + 1)) : Nat) : Int) := by omega
      have HSI := hide hsi
      have hb3 : Go.Lib.onesCount (word m j) ≤ 2000000 := by omega
      clear hsu hcw hsi
      go_wp2_with fail
      refine HO.out.mono ?_
      rintro e wz ⟨rfl, rfl⟩
      go_wp2_with fail
      exact ⟨⟨j + 1, by simp, by omega, by rw [← HSI.out]⟩, by simp [intOf]; omega⟩
    · obtain rfl : j = q := by omega
      go_wp2_with fail
      have hmask := HMASK.out
      have hti : (i : Int).tmod 64 = (r : Int) := by rw [Int.tmod_eq_emod_of_nonneg (by omega)]; exact hri
      have hwj : IntKind.i64.wrap (j : Int) = (j : Int) := by rw [IntKind.wrap_i64]; omega
      have hws : IntKind.i64.wrap ((cnt m (64 * j) : Int) + (Go.Lib.onesCount y : Int)) = (cnt m i : Int) := by have := HOL.out; rw [IntKind.wrap_i64]; omega
      go_quiet ((go_at_call 45; with_reducible exact Calls.quiet_of_same ((HON.out _).mono (fun _ _ h => ⟨h.1, h.2.symm⟩))))
      go_wp2_with fail
      go_ret
      exact ⟨rfl, _, rfl⟩
set_option maxRecDepth 100000 in
theorem rank_any (w : World) {S g cap n : Nat} {m : Nat → Bool} (h : SetAt w S g cap n m) (i : Int) :
    Calls Tryd.prog 18 #[.pointer (some ⟨S, 0, none⟩), .int .i64 i] w fun e w' => e = .returned (.int .i64 (cnt m i.toNat : Nat)) ∧ ∃ q, w' = w.drewN q := by
  obtain ⟨c0, c1, c2⟩ := cells3 h.hd
  by_cases h0 : i ≤ 0
  · have e0 : cnt m i.toNat = 0 := by rw [show i.toNat = 0 by omega]; rfl
    have E0 := hide e0
    clear e0 h
    go_enter Tryd.func18, Tryd.ntmps18
    go_wp2_with fail
    go_ret
    exact ⟨ret_int (by rw [E0.out]; rfl), 0, rfl⟩
  · obtain ⟨k, rfl⟩ := Int.eq_ofNat_of_zero_le (show 0 ≤ i by omega)
    rw [Int.toNat_natCast]
    by_cases hi : k < n
    · exact rank_in w h k (by omega) hi
    · have e0 : cnt m k = cnt m n := cnt_off h.off (by omega)
      have hk0 : ¬ k = 0 := by omega
      have hkn : (n : Int) ≤ (k : Int) := by omega
      have E0 := hide e0
      clear e0 h h0 hi
      go_enter Tryd.func18, Tryd.ntmps18
      go_wp2_with fail
      go_ret
      exact ⟨ret_int (by rw [E0.out]), 0, rfl⟩
theorem and_pred (x y : Nat) (hx : x < 18446744073709551616) (h0 : x ≠ 0) (h : x &&& (x - 1) = y) : bits .and .u64 (x : Int) (IntKind.u64.wrap ((x : Int) - 1)) = (y : Int) := by
  have e1 : IntKind.u64.wrap ((x : Int) - 1) = ((x - 1 : Nat) : Int) := by rw [IntKind.wrap_u64]; omega
  rw [e1, bits_and_u64_nat _ _ hx (by omega), h]
theorem from_lt (f : Nat → Bool) (r : Nat) : from_ f r < 18446744073709551616 := num_lt 64 _
theorem vi {k : IntKind} {a b : Int} (h : a = b) : Value.int k a = Value.int k b := by rw [h]
theorem mem64_get {f : Nat → Bool} {r : Nat} (h : r < cnt f 64) : ∃ z, (Ds.mem f 64)[r]? = some z := ⟨_, List.getElem?_eq_getElem h⟩
set_option maxRecDepth 100000 in
set_option maxHeartbeats 2000000 in
theorem select_in (w : World) {S g cap n : Nat} {m : Nat → Bool} (h : SetAt w S g cap n m) (hT : DeBr w) (k x : Nat) (hk : (Ds.mem m n)[k]? = some x) :
    Calls Tryd.prog 19 #[.pointer (some ⟨S, 0, none⟩), .int .i64 (k : Nat)] w fun e w' => e = .returned (.tuple #[.int .i64 (x : Nat), .bool true]) ∧ w = w' := by
  obtain ⟨c0, c1, c2⟩ := cells3 h.hd
  have hsm := h.small
  have HS := hide h
  have HT := hide hT
  have hcap := h.cap
  have hnw := nw_le h
  have hkc : k < cnt m n := get_lt' hk
  have hcn := cnt_le m n
  have hk1 : ¬ (k : Int) < 0 := by omega
  have hk2 : ¬ ((cnt m n : Nat) : Int) ≤ (k : Int) := by omega
  have HK := hide hk
  clear hk h hT
  go_enter Tryd.func19, Tryd.ntmps19
  go_wp2_with fail
  go_loop [1, 6] (fun a b => ∃ j r : Nat, b = .int .i64 (j : Nat) ∧ a = .int .i64 (r : Nat) ∧ cnt m (64 * j) + r = k) (fun _ b => nw n - (intOf b).toNat)
  case atStart => exact ⟨0, k, rfl, rfl, by simp [cnt, Ds.mem]⟩
  case round =>
    obtain ⟨j, r, rfl, rfl, hjr⟩ := hrel
    have hjn : 64 * j < n := by
      by_cases h1 : 64 * j < n
      · exact h1
      · have := cnt_off HS.out.off (i := 64 * j) (by omega); omega
    have hjw : j < nw n := by unfold nw; omega
    have hcj := HS.out.cell hjw
    have hsu := cnt_words m j
    have HO := hide (ones_any w (word m j) (word_lt' m j))
    have how := ones_word m j
    have hol : Go.Lib.onesCount (word m j) ≤ 64 := by rw [how]; exact cnt_le _ _
    have HOW := hide how
    have HJR := hide hjr
    have hrk : r ≤ k := by omega
    have hji : (j : Int) < (nw n : Int) := by omega
    have hj16 : j ≤ 16384 := by omega
    clear how
    by_cases hle : Go.Lib.onesCount (word m j) ≤ r
    · have hlei : ((Go.Lib.onesCount (word m j) : Nat) : Int) ≤ (r : Int) := by omega
      have HJR2 := hide (show cnt m (64 * (j + 1)) + (r - Go.Lib.onesCount (word m j)) = k by omega)
      clear hsu hjr
      go_wp2_with fail
      refine HO.out.mono ?_
      rintro e wz ⟨rfl, rfl⟩
      go_wp2_with fail
      refine HO.out.mono ?_
      rintro e wz ⟨rfl, rfl⟩
      go_wp2_with fail
      exact ⟨⟨j + 1, r - Go.Lib.onesCount (word m j), vi (by omega), vi (by omega), HJR2.out⟩, by simp only [intOf]; omega⟩
    · have hlei : ¬ ((Go.Lib.onesCount (word m j) : Nat) : Int) ≤ (r : Int) := by omega
      obtain ⟨f, hf⟩ : ∃ f, (fun k => m (64 * j + k)) = f := ⟨_, rfl⟩
      have HF := hide hf
      have hrc : r < cnt f 64 := by rw [← hf]; have := HOW.out; omega
      have HRC := hide hrc
      have hfz : word m j = from_ f 0 := by rw [from_zero, ← hf]; rfl
      have hr64 : r ≤ 64 := by have := cnt_le f 64; omega
      have HFZ := hide hfz
      clear hsu hjr hrc hf hfz
      go_wp2_with fail
      refine HO.out.mono ?_
      rintro e wz ⟨rfl, rfl⟩
      rw [HFZ.out] at hcj
      clear HO HOW HFZ
      go_wp2_with fail
      clear hcj hlei hle hol
      go_loop [1, 7] (fun a b => ∃ t : Nat, a = .int .i64 (r - t : Nat) ∧ b = .int .u64 (from_ f t : Nat) ∧ t ≤ r) (fun a _ => (intOf a).toNat)
      case atStart => exact ⟨0, rfl, rfl, by omega⟩
      case round =>
        obtain ⟨t, rfl, rfl, htr⟩ := hrel
        obtain ⟨d, rfl⟩ : ∃ d, r = t + d := ⟨r - t, by omega⟩
        rw [Nat.add_sub_cancel_left]
        obtain ⟨z, hz⟩ := mem64_get (f := f) (r := t) (by have := HRC.out; omega)
        obtain ⟨hb1, hb2⟩ := from_low hz
        have hne : from_ f t ≠ 0 := by intro e; rw [e] at hb1; simp at hb1
        have hlt := from_lt f t
        by_cases hd : d = 0
        · subst hd
          rw [Nat.add_zero] at HJR
          have hz64 : z < 64 := mem_lt (List.mem_of_getElem? hz)
          have hct := ctz_at z _ hz64 hb1 hb2
          have HC := hide (ctz_any w _ hlt hne HT.out)
          rw [hct] at HC
          have hzz := (mem_get f 64 t z).1 hz
          have hx : x = 64 * j + z := by
            have h1 : m (64 * j + z) = true := by have := hzz.2.1; rw [← HF.out] at this; exact this
            have h2 : cnt m (64 * j + z) = k := by rw [cnt_add, HF.out, hzz.2.2]; exact HJR.out
            have h3 : 64 * j + z < n := by
              by_cases h4 : 64 * j + z < n
              · exact h4
              · have := HS.out.off _ (Nat.le_of_not_lt h4); rw [h1] at this; cases this
            have := (mem_get m n k (64 * j + z)).2 ⟨h3, h1, h2⟩
            rw [HK.out] at this
            exact Option.some.inj this
          have HX := hide hx
          have hw1 : IntKind.i64.wrap (64 * (j : Int)) = 64 * (j : Int) := by rw [IntKind.wrap_i64]; omega
          clear hct hzz hb1 hb2 hne hlt hx hz
          go_wp2_with fail
          refine HC.out.mono ?_
          rintro e wz ⟨rfl, rfl⟩
          go_wp2_with fail
          go_ret2
          exact ⟨by rw [HX.out]; simp, rfl⟩
        · have hd0 : 0 < (d : Int) := by omega
          have hd1 : 0 < d := by omega
          have hap := and_pred _ _ hlt hne (from_next hz)
          have HE := hide (show d - 1 = (t + d) - (t + 1) by omega)
          clear hb1 hb2 hne hlt hz hd
          go_wp2_with fail
          exact ⟨⟨t + 1, vi (by omega), rfl, by omega⟩, by simp only [intOf]; omega⟩
def SelOut (m : Nat → Bool) (n : Nat) (k : Int) (e : Ending) : Prop :=
  match (if k < 0 then none else (Ds.mem m n)[k.toNat]?) with
  | some x => e = .returned (.tuple #[.int .i64 (x : Nat), .bool true])
  | none => e = .returned (.tuple #[.int .i64 0, .bool false])
set_option maxRecDepth 100000 in
theorem select_any (w : World) {S g cap n : Nat} {m : Nat → Bool} (h : SetAt w S g cap n m) (hT : DeBr w) (k : Int) :
    Calls Tryd.prog 19 #[.pointer (some ⟨S, 0, none⟩), .int .i64 k] w fun e w' => SelOut m n k e ∧ w = w' := by
  obtain ⟨c0, c1, c2⟩ := cells3 h.hd
  unfold SelOut
  by_cases h0 : k < 0
  · rw [if_pos h0]
    clear h hT
    go_enter Tryd.func19, Tryd.ntmps19
    go_wp2_with fail
    go_ret2
    exact ⟨rfl, rfl⟩
  · rw [if_neg h0]
    obtain ⟨j, rfl⟩ := Int.eq_ofNat_of_zero_le (show 0 ≤ k by omega)
    rw [Int.toNat_natCast]
    cases hx : (Ds.mem m n)[j]? with
    | some x => exact select_in w h hT j x hx
    | none =>
      have hle : cnt m n ≤ j := List.getElem?_eq_none_iff.1 hx
      have hle2 : ((cnt m n : Nat) : Int) ≤ (j : Int) := by omega
      clear hx h hT
      go_enter Tryd.func19, Tryd.ntmps19
      go_wp2_with fail
      go_ret2
      exact ⟨rfl, rfl⟩
end Go.Proofs.YtmkbbekeimnajaaDoor

/-! Be: bytes.Equal -/
namespace Go.Proofs.YtmkbbekeimnajaaDoor
open Go.RowKit Ds Go
def strB (bs : List Nat) : ByteArray := strOfNums (bs.map Int.ofNat)
theorem strB_list (bs : List Nat) : (strB bs).toList = bs.map UInt8.ofNat := by
  rw [ByteArray.toList_eq]
  unfold strB strOfNums
  simp
theorem strB_inj {xs ys : List Nat} (hx : ∀ x ∈ xs, x < 256) (hy : ∀ x ∈ ys, x < 256) (h : (strB xs).toList = (strB ys).toList) : xs = ys := by
  rw [strB_list, strB_list] at h
  have hm : ∀ l : List Nat, (∀ x ∈ l, x < 256) → (l.map UInt8.ofNat).map UInt8.toNat = l := by
    intro l hl
    induction l with
    | nil => rfl
    | cons a r ih =>
      simp only [List.map_cons]
      rw [ih (fun x hx => hl x (by simp [hx]))]
      have := hl a (by simp)
      simp [Nat.mod_eq_of_lt this]
  rw [← hm xs hx, ← hm ys hy, h]
theorem conv_src {w : World} {v : Value} {bs : List Nat} (h : Src w v bs) : (convert 46 9 v).run Tryd.prog w = .ok (.string (strB bs)) w := by
  obtain ⟨h256, ⟨rfl, rfl⟩ | ⟨ad, cap, rfl, h1, h2, hc⟩⟩ := h
  · exact run_convert_bytes_nil (P := Tryd.prog) w 46 5 Tryd.underlying46 Tryd.underlying5 0 0 9 Tryd.underlying9
  · cases bs with
    | nil =>
      have hl := run_loadCells_list (P := Tryd.prog) w ad [] (fun j v hj => by simp at hj)
      show (convert 46 9 (.slice (some ad) 0 cap)).run Tryd.prog w = _
      rw [run_convert_bytes_string (P := Tryd.prog) w 46 9 5 (some ad) 0 cap Tryd.underlying46 Tryd.underlying5 Tryd.underlying9, run_bytesToString w ad 0 cap [] (by simpa using hl)]
      rfl
    | cons x r =>
      have h0 := hc 0 x rfl
      obtain ⟨b, off, sp⟩ := ad
      have hs : sp = none := by
        simp only [Addr.add, if_pos, World.cell?] at h0
        split at h0
        · split at h0
          · cases h0
          · rename_i hh; simpa using hh
        · cases h0
      subst hs
      refine run_convert_bytes_arg (P := Tryd.prog) w 46 5 Tryd.underlying46 Tryd.underlying5 b off (x :: r).length cap ((x :: r).map Int.ofNat) (by simp) (fun i hi => ?_) 9 Tryd.underlying9
      have := hc i ((x :: r)[i]) (List.getElem?_eq_getElem hi)
      rw [Addr.add_mid] at this
      rw [this]
      congr 2
      rw [List.getD_eq_getElem?_getD, List.getElem?_map, List.getElem?_eq_getElem hi]
      rfl
set_option maxRecDepth 100000 in
theorem bytes_equal (w : World) (v1 v2 : Value) (xs ys : List Nat) (h1 : Src w v1 xs) (h2 : Src w v2 ys) :
    Calls Tryd.prog 28 #[v1, v2] w fun e w' => e = .returned (.bool (decide (xs = ys))) ∧ w = w' := by
  have c1 := conv_src h1
  have c2 := conv_src h2
  have HE := hide (show (@BEq.beq (List UInt8) (@List.instBEq UInt8 (@instBEqOfDecidableEq UInt8 instDecidableEqUInt8)) (strB xs).toList (strB ys).toList) = decide (xs = ys) from by
    by_cases h : xs = ys
    · rw [h]; simp
    · rw [decide_eq_false h, beq_eq_false_iff_ne]
      exact fun e => h (strB_inj h1.1 h2.1 e))
  obtain ⟨s1, hs1⟩ : ∃ s, strB xs = s := ⟨_, rfl⟩
  obtain ⟨s2, hs2⟩ : ∃ s, strB ys = s := ⟨_, rfl⟩
  rw [hs1] at c1 HE
  rw [hs2] at c2 HE
  clear h1 h2 hs1 hs2
  go_enter Tryd.func28, Tryd.ntmps28
  go_wp2_with fail
  go_ret
  exact ⟨by rw [← HE.out]; rfl, rfl⟩
end Go.Proofs.YtmkbbekeimnajaaDoor

/-! Bo: a block's bytes -/
namespace Go.Proofs.YtmkbbekeimnajaaDoor
open Go.RowKit Ds
/-- byte j of the set m -/
def oct (m : Nat → Bool) (j : Nat) : Nat := num 8 fun k => m (8 * j + k)
theorem oct_lt (m : Nat → Bool) (j : Nat) : oct m j < 256 := num_lt 8 _
theorem oct_bit (m : Nat → Bool) (j k : Nat) : (oct m j).testBit k = (decide (k < 8) && m (8 * j + k)) := num_bit 8 _ k
theorem oct_put (m : Nat → Bool) (i : Nat) (b : Bool) (j : Nat) (hj : j ≠ i / 8) : oct (put m i b) j = oct m j := by
  refine num_congr fun k hk => ?_
  unfold put
  rw [if_neg (fun e => hj (by omega))]
theorem oct_add (m : Nat → Bool) (i : Nat) : oct m (i / 8) ||| 2 ^ (i % 8) = oct (put m i true) (i / 8) := by
  refine num_ext (Nat.or_lt_two_pow (num_lt 8 _) (Nat.pow_lt_pow_right (by omega) (by omega))) fun k hk => ?_
  rw [Nat.testBit_or, oct_bit, Nat.testBit_two_pow]
  unfold put
  by_cases h : i % 8 = k
  · rw [if_pos (by omega)]; simp [h]
  · rw [if_neg (by omega)]; simp [h, hk]
def octs (m : Nat → Bool) : List Value := (List.range 32).map fun j => .int .u8 (oct m j : Nat)
theorem octs_len (m : Nat → Bool) : (octs m).length = 32 := by simp [octs]
theorem octs_get (m : Nat → Bool) {j : Nat} (h : j < 32) : (octs m)[j]? = some (.int .u8 (oct m j : Nat)) := by simp [octs, h]
theorem octs_put (m : Nat → Bool) (i : Nat) (b : Bool) : (octs m).toArray.setIfInBounds (i / 8) (.int .u8 (oct (put m i b) (i / 8) : Nat)) = (octs (put m i b)).toArray := by
  rw [List.setIfInBounds_toArray]
  congr 1
  apply List.ext_getElem?
  intro j
  rw [List.getElem?_set]
  by_cases hj : j < 32
  · rw [octs_get _ hj, octs_get _ hj, octs_len]
    by_cases e : i / 8 = j
    · subst e; simp [hj]
    · rw [if_neg e, oct_put m i b j (fun h => e h.symm)]
  · rw [List.getElem?_eq_none (by rw [octs_len]; omega), List.getElem?_eq_none (by rw [octs_len]; omega), octs_len]
    split
    · rw [if_neg (by omega)]
    · rfl
theorem octs_none : (#[.int .u8 0, .int .u8 0, .int .u8 0, .int .u8 0, .int .u8 0, .int .u8 0, .int .u8 0, .int .u8 0, .int .u8 0, .int .u8 0, .int .u8 0, .int .u8 0, .int .u8 0, .int .u8 0, .int .u8 0, .int .u8 0, .int .u8 0, .int .u8 0, .int .u8 0, .int .u8 0, .int .u8 0, .int .u8 0, .int .u8 0, .int .u8 0, .int .u8 0, .int .u8 0, .int .u8 0, .int .u8 0, .int .u8 0, .int .u8 0, .int .u8 0, .int .u8 0] : Array Value) = (octs (fun _ => false)).toArray := rfl
/-- the members below i -/
def below (m : Nat → Bool) (i : Nat) : Nat → Bool := fun k => decide (k < i) && m k
theorem below_zero (m : Nat → Bool) : below m 0 = fun _ => false := by funext k; simp [below]
theorem below_yes {m : Nat → Bool} {i : Nat} (h : m i = true) : put (below m i) i true = below m (i + 1) := by
  funext k
  unfold put below
  by_cases e : k = i
  · subst e; simp [h]
  · rw [if_neg e]
    have : decide (k < i + 1) = decide (k < i) := by
      by_cases h1 : k < i
      · rw [decide_eq_true h1, decide_eq_true (by omega)]
      · rw [decide_eq_false h1, decide_eq_false (by omega)]
    rw [this]
theorem below_no {m : Nat → Bool} {i : Nat} (h : m i = false) : below m (i + 1) = below m i := by
  funext k
  unfold below
  by_cases e : k = i
  · subst e; simp [h]
  · have : decide (k < i + 1) = decide (k < i) := by
      by_cases h1 : k < i
      · rw [decide_eq_true h1, decide_eq_true (by omega)]
      · rw [decide_eq_false h1, decide_eq_false (by omega)]
    rw [this]
theorem octs_congr {m k : Nat → Bool} (h : ∀ i, i < 256 → m i = k i) : octs m = octs k := by
  unfold octs
  refine List.map_congr_left fun j hj => ?_
  have : oct m j = oct k j := num_congr fun i hi => h _ (by simp at hj; omega)
  rw [this]
theorem or_bit8 (m : Nat → Bool) (i : Nat) : bits .or .u8 ((oct m (i / 8) : Nat) : Int) (IntKind.u8.wrap (2 ^ (i % 8))) = ((oct (put m i true) (i / 8) : Nat) : Int) := by
  have hw := oct_lt m (i / 8)
  have hw2 := oct_lt (put m i true) (i / 8)
  have hp : 2 ^ (i % 8) < 2 ^ 8 := Nat.pow_lt_pow_right (by omega) (Nat.mod_lt _ (by omega))
  have e1 : IntKind.u8.wrap ((2 : Int) ^ (i % 8)) = ((2 ^ (i % 8) : Nat) : Int) := by
    have e2 : (2 : Int) ^ (i % 8) = ((2 ^ (i % 8) : Nat) : Int) := by rw [Int.natCast_pow]; rfl
    rw [IntKind.wrap_u8, e2]
    generalize 2 ^ (i % 8) = p at hp ⊢
    omega
  have ha := oct_add m i
  rw [e1]
  generalize 2 ^ (i % 8) = p at hp ha
  have h1 : (BitVec.ofInt 8 ((oct m (i / 8) : Nat) : Int)).toNat = oct m (i / 8) := by
    rw [BitVec.ofInt_natCast, BitVec.toNat_ofNat]; exact Nat.mod_eq_of_lt (by omega)
  have h2 : (BitVec.ofInt 8 ((p : Nat) : Int)).toNat = p := by
    rw [BitVec.ofInt_natCast, BitVec.toNat_ofNat]; exact Nat.mod_eq_of_lt (by omega)
  show IntKind.u8.wrap ((BitVec.ofInt 8 ((oct m (i / 8) : Nat) : Int) ||| BitVec.ofInt 8 (p : Int)).toNat : Int) = _
  rw [BitVec.toNat_or, h1, h2, ha, IntKind.wrap_u8]
  omega
end Go.Proofs.YtmkbbekeimnajaaDoor

/-! Mx: the algebra: words by words; the sets under way -/
namespace Go.Proofs.YtmkbbekeimnajaaDoor
open Go.RowKit Ds
theorem word_and (a b : Nat → Bool) (j : Nat) : bits .and .u64 (word a j : Int) (word b j : Int) = (word (fun i => a i && b i) j : Int) := by
  rw [bits_and_u64_nat _ _ (word_lt' a j) (word_lt' b j)]
  congr 1
  refine num_ext (Nat.and_lt_two_pow _ (word_lt b j)) fun k hk => ?_
  rw [Nat.testBit_and, word_bit, word_bit]
  simp [hk]
theorem word_or (a b : Nat → Bool) (j : Nat) : bits .or .u64 (word a j : Int) (word b j : Int) = (word (fun i => a i || b i) j : Int) := by
  rw [bits_or_u64_nat _ _ (word_lt' a j) (word_lt' b j)]
  congr 1
  refine num_ext (Nat.or_lt_two_pow (word_lt a j) (word_lt b j)) fun k hk => ?_
  rw [Nat.testBit_or, word_bit, word_bit]
  simp [hk]
theorem word_minus (a b : Nat → Bool) (j : Nat) : bits .andNot .u64 (word a j : Int) (word b j : Int) = (word (fun i => a i && !b i) j : Int) := by
  have hw := word_lt' (fun i => a i && !b i) j
  have hx : (BitVec.ofNat 64 (word a j) &&& ~~~(BitVec.ofNat 64 (word b j))).toNat = word (fun i => a i && !b i) j := by
    refine num_ext (BitVec.isLt _) fun k hk => ?_
    rw [BitVec.testBit_toNat, BitVec.getLsbD_and, BitVec.getLsbD_not, BitVec.getLsbD_ofNat, BitVec.getLsbD_ofNat, word_bit, word_bit]
    simp [hk]
  show IntKind.u64.wrap ((BitVec.ofInt 64 ((word a j : Nat) : Int) &&& ~~~(BitVec.ofInt 64 ((word b j : Nat) : Int))).toNat : Int) = _
  rw [BitVec.ofInt_natCast, BitVec.ofInt_natCast, hx, IntKind.wrap_u64]
  omega
theorem cnt_below {m : Nat → Bool} {n : Nat} (h : ∀ i, n ≤ i → m i = false) (k : Nat) : cnt (below m k) n = cnt m k := by
  by_cases hk : k ≤ n
  · obtain ⟨d, rfl⟩ : ∃ d, n = k + d := ⟨n - k, by omega⟩
    exact cnt_cut m k d
  · rw [cnt_off h (i := k) (by omega)]
    exact cnt_congr fun i hi => by unfold below; rw [decide_eq_true (by omega)]; rfl
theorem cnt_bd' {m : Nat → Bool} {n : Nat} (h : ∀ i, n ≤ i → m i = false) (k : Nat) : cnt m k ≤ n := by
  by_cases hk : n ≤ k
  · rw [cnt_off h hk]; exact cnt_le m n
  · have := cnt_le m k; omega
theorem cnt_all {m : Nat → Bool} {n : Nat} (h : ∀ i, n ≤ i → m i = false) : cnt m (64 * nw n) = cnt m n := cnt_off h (by unfold nw; omega)
theorem word_below_yes (m : Nat → Bool) (j : Nat) : word (below m (64 * (j + 1))) j = word m j := num_congr fun k hk => by unfold below; rw [decide_eq_true (by omega)]; rfl
theorem word_below_no (m : Nat → Bool) (j i : Nat) (h : i ≠ j) : word (below m (64 * (j + 1))) i = word (below m (64 * j)) i := num_congr fun k hk => by
  unfold below
  by_cases hi : i < j
  · rw [decide_eq_true (by omega), decide_eq_true (by omega)]
  · rw [decide_eq_false (by omega), decide_eq_false (by omega)]
theorem wds_below (m : Nat → Bool) (j k : Nat) : (wds (below m (64 * j)) k).set j (.int .u64 (word m j : Nat)) = wds (below m (64 * (j + 1))) k := by
  apply List.ext_getElem?
  intro i
  rw [List.getElem?_set]
  by_cases hi : i < k
  · rw [wds_get _ hi, wds_get _ hi, wds_len]
    by_cases e : j = i
    · subst e; simp [hi, word_below_yes]
    · rw [if_neg e, word_below_no m j i (fun h => e h.symm)]
  · rw [List.getElem?_eq_none (by rw [wds_len]; omega), List.getElem?_eq_none (by rw [wds_len]; omega), wds_len]
    split
    · rw [if_neg (by omega)]
    · rfl
theorem wds_congr {m k : Nat → Bool} {n : Nat} (h : ∀ j, j < n → word m j = word k j) : wds m n = wds k n := by
  unfold wds
  exact List.map_congr_left fun j hj => by rw [h j (List.mem_range.1 hj)]
theorem word_below_all (m : Nat → Bool) (k j : Nat) (hj : j < k) : word (below m (64 * k)) j = word m j :=
  num_congr fun i hi => by unfold below; rw [decide_eq_true (by omega), Bool.true_and]
theorem wds_below_all (m : Nat → Bool) (k : Nat) : wds (below m (64 * k)) k = wds m k := wds_congr fun j hj => word_below_all m k j hj
theorem wds_below_zero (m : Nat → Bool) (k : Nat) : wds (below m 0) k = wds (fun _ => false) k := wds_congr fun j _ => by rw [below_zero]
/-- a set under way: its count, its words -/
structure Half (w : World) (S g n : Nat) (c : Nat) (ws : List Value) : Prop where
  hd : w.heap[S]? = some (.cells #[.int .i64 (n : Nat), .int .i64 (c : Nat), .slice (some ⟨g, 0, none⟩) (nw n) (nw n)] 82 (0, 0))
  wd : w.heap[g]? = some (.cells ws.toArray 83 (0, 0))
  len : ws.length = nw n
section
variable {w w' : World} {S g n c : Nat} {ws : List Value}
theorem Half.ne (h : Half w S g n c ws) : S ≠ g := by
  rintro rfl
  have := h.wd
  rw [h.hd] at this
  simp at this
theorem Half.keep (h : Half w S g n c ws) (hb : Below w.heap.size w w') : Half w' S g n c ws :=
  ⟨(hb.block _ (heap_lt h.hd)).trans h.hd, (hb.block _ (heap_lt h.wd)).trans h.wd, h.len⟩
theorem Half.word (h : Half w S g n c ws) (j : Nat) (v : Value) : Half (w.setCell ⟨g, j, none⟩ v) S g n c (ws.set j v) :=
  ⟨heap_else h.hd h.ne v, by rw [heap_set h.wd]; simp, by rw [List.length_set]; exact h.len⟩
theorem Half.count (h : Half w S g n c ws) (d : Nat) : Half (w.setCell ⟨S, 1, none⟩ (.int .i64 (d : Nat))) S g n d ws :=
  ⟨by rw [heap_set h.hd]; rfl, heap_else h.wd h.ne.symm _, h.len⟩
theorem Half.of {m : Nat → Bool} (h : SetAt w S g (nw n) n m) : Half w S g n (cnt m n) (wds m (nw n)) := by
  obtain ⟨cur, h1, h2, h3⟩ := h.ws
  refine ⟨h.hd, ?_, wds_len _ _⟩
  rw [h1, ← h3, List.take_of_length_le (by simp; omega)]
theorem Half.set {m : Nat → Bool} (h : Half w S g n (cnt m n) (wds m (nw n))) (hn : n ≤ 1048576) (hm : ∀ i, n ≤ i → m i = false) : SetAt w S g (nw n) n m :=
  ⟨h.hd, ⟨_, h.wd, by simp [wds_len], by rw [List.toList_toArray, List.take_of_length_le (by rw [wds_len]; omega)]⟩, ⟨Nat.le_refl _, by unfold nw; omega⟩, hm, hn⟩
theorem Half.cell (h : Half w S g n c ws) {j : Nat} {v : Value} (hj : ws[j]? = some v) : w.cell? ⟨g, j, none⟩ = some v ∧ w.frozen? ⟨g, j, none⟩ = false := by
  refine ⟨?_, free_at h.wd _⟩
  rw [cell_at h.wd]
  simpa using hj
end
end Go.Proofs.YtmkbbekeimnajaaDoor

/-! Pl: the tag; a block's places -/
namespace Go.Proofs.YtmkbbekeimnajaaDoor
open Go.RowKit Ds
set_option maxRecDepth 100000 in
theorem tag_any (w : World) (b c : Nat) (hb : b ≤ 256) (hc : c ≤ b) :
    Calls Tryd.prog 50 #[.int .i64 (b : Nat), .int .i64 (c : Nat)] w fun e w' => e = .returned (.int .u8 (tagOf b c : Nat)) ∧ w = w' := by
  by_cases h0 : c = 0
  · subst h0
    have HT := hide (show tagOf b 0 = 0 from by simp [tagOf])
    go_enter Tryd.func50, Tryd.ntmps50
    go_wp2_with fail
    go_ret
    exact ⟨by rw [HT.out]; rfl, rfl⟩
  · have h0i : ((c : Int) == 0) = false := by simp; omega
    by_cases h1 : c = b
    · subst h1
      have HT := hide (show tagOf c c = 1 from by simp [tagOf, h0])
      clear h0
      go_enter Tryd.func50, Tryd.ntmps50
      go_wp2_with fail
      go_ret
      exact ⟨by rw [HT.out]; rfl, rfl⟩
    · have h1i : ((c : Int) == (b : Int)) = false := by simp; omega
      obtain ⟨q, hq⟩ : ∃ q, (b + 7) / 8 = q := ⟨_, rfl⟩
      have hqi : ((b : Int) + 7) / 8 = (q : Int) := by omega
      have hw1 : IntKind.i64.wrap (2 + (b : Int) - (c : Int)) = 2 + (b : Int) - (c : Int) := by rw [IntKind.wrap_i64]; omega
      have HT := hide (show tagOf b c = if 1 + q < min (2 + c) (2 + b - c) then 4 else if 2 + b - c < 2 + c then 3 else 2 from by
        unfold tagOf
        rw [if_neg h0, if_neg h1, hq])
      clear hq
      by_cases h2 : 2 + b - c < 2 + c
      · have h2i : (2 : Int) + (b : Int) - (c : Int) < 2 + (c : Int) := by omega
        by_cases h3 : 1 + q < 2 + b - c
        · have h3i : (1 : Int) + (q : Int) < 2 + (b : Int) - (c : Int) := by omega
          have HT2 := hide (show tagOf b c = 4 from by rw [HT.out, if_pos (by omega)])
          clear h0 h1 h2 h3
          go_enter Tryd.func50, Tryd.ntmps50
          go_wp2_with fail
          go_ret
          exact ⟨by rw [HT2.out]; rfl, rfl⟩
        · have h3i : ¬ (1 : Int) + (q : Int) < 2 + (b : Int) - (c : Int) := by omega
          have HT2 := hide (show tagOf b c = 3 from by rw [HT.out, if_neg (by omega), if_pos h2])
          clear h0 h1 h2 h3
          go_enter Tryd.func50, Tryd.ntmps50
          go_wp2_with fail
          go_ret
          exact ⟨by rw [HT2.out]; rfl, rfl⟩
      · have h2i : ¬ (2 : Int) + (b : Int) - (c : Int) < 2 + (c : Int) := by omega
        by_cases h3 : 1 + q < 2 + c
        · have h3i : (1 : Int) + (q : Int) < 2 + (c : Int) := by omega
          have HT2 := hide (show tagOf b c = 4 from by rw [HT.out, if_pos (by omega)])
          clear h0 h1 h2 h3
          go_enter Tryd.func50, Tryd.ntmps50
          go_wp2_with fail
          go_ret
          exact ⟨by rw [HT2.out]; rfl, rfl⟩
        · have h3i : ¬ (1 : Int) + (q : Int) < 2 + (c : Int) := by omega
          have HT2 := hide (show tagOf b c = 2 from by rw [HT.out, if_neg (by omega), if_neg h2])
          clear h0 h1 h2 h3
          go_enter Tryd.func50, Tryd.ntmps50
          go_wp2_with fail
          go_ret
          exact ⟨by rw [HT2.out]; rfl, rfl⟩
theorem has_bit8 (f : Nat → Bool) (i : Nat) : bits .and .u8 ((oct f (i / 8) : Int) / 2 ^ (i % 8)) 1 = (if f i then 1 else 0 : Int) := by
  have hw := oct_lt f (i / 8)
  have e1 : ((oct f (i / 8) : Nat) : Int) / 2 ^ (i % 8) = ((oct f (i / 8) / 2 ^ (i % 8) : Nat) : Int) := by rw [Int.natCast_ediv, Int.natCast_pow]; rfl
  have hd : oct f (i / 8) / 2 ^ (i % 8) ≤ oct f (i / 8) := Nat.div_le_self _ _
  have hb := oct_bit f (i / 8) (i % 8)
  rw [Nat.testBit_eq_decide_div_mod_eq, decide_eq_true (Nat.mod_lt _ (by omega)), Bool.true_and, show 8 * (i / 8) + i % 8 = i by omega] at hb
  rw [e1]
  generalize oct f (i / 8) / 2 ^ (i % 8) = y at hd hb
  have h1 : (BitVec.ofInt 8 ((y : Nat) : Int)).toNat = y := by
    rw [BitVec.ofInt_natCast, BitVec.toNat_ofNat]; exact Nat.mod_eq_of_lt (by omega)
  have h2 : (BitVec.ofInt 8 (1 : Int)).toNat = 1 := rfl
  show IntKind.u8.wrap ((BitVec.ofInt 8 ((y : Nat) : Int) &&& BitVec.ofInt 8 (1 : Int)).toNat : Int) = _
  rw [BitVec.toNat_and, h1, h2, Nat.and_one_is_mod, IntKind.wrap_u8, ← hb]
  by_cases h : y % 2 = 1
  · simp [h]
  · have : y % 2 = 0 := by omega
    simp [this]
/-- the places whose bit is b -/
def sel (f : Nat → Bool) (b : Bool) : Nat → Bool := fun i => f i == b
def bv (b : Bool) : Int := if b then 1 else 0
end Go.Proofs.YtmkbbekeimnajaaDoor

/-! Pl2: a block's places -/
namespace Go.Proofs.YtmkbbekeimnajaaDoor
open Go.RowKit Ds
set_option maxRecDepth 100000 in
set_option maxHeartbeats 2000000 in
theorem places_any (w : World) (f : Nat → Bool) (b : Nat) (hb : b ≤ 256) (bit : Bool) (z : Int) (hz : z = bv bit) :
    Calls Tryd.prog 53 #[.agg (octs f).toArray, .int .i64 (b : Nat), .int .u8 z] w fun e w' => ∃ v, e = .returned v ∧ Own w' w.heap.size v (Ds.mem (sel f bit) b) ∧ Below w.heap.size w w' := by
  have HZ := hide hz
  have HN := hide (heap_new (w := w) rfl (.cells (octs f).toArray 89))
  have HB := hide ((Below.refl w.heap.size w).alloc (Nat.le_refl _) (.cells (octs f).toArray 89))
  obtain ⟨i0, hi, hz0, hz1, hz2⟩ := info_parts info5
  clear hz
  go_enter Tryd.func53, Tryd.ntmps53
  go_wp2_with fail
  generalize w.alloc (.cells (octs f).toArray 89) = w1 at *
  go_loopw [7, 10] (fun v k wr => ∃ i : Nat, k = .int .i64 (i : Nat) ∧ i ≤ b ∧ Own wr w.heap.size v (Ds.mem (sel f bit) i) ∧ wr.heap[w.heap.size]? = some (.cells (octs f).toArray 89 (0, 0)) ∧ Below w.heap.size w wr) (fun _ k _ => b - (intOf k).toNat)
  case atStart => exact ⟨0, rfl, by omega, World.ownsRow_nil _ _ _ _, HN.out, HB.out⟩
  case round =>
    obtain ⟨i, rfl, hi2, hown, hk, hbr⟩ := hrel
    have HO := hide hown
    have HK := hide hk
    have HBr := hide hbr
    have hsr := hbr.size
    obtain ⟨vo, vc, rfl⟩ := row_shape hown
    clear hown hk hbr HN HB
    by_cases hlt : i < b
    · have hi1 : (i : Int) < (b : Int) := by omega
      obtain ⟨q, hq⟩ : ∃ q, i / 8 = q := ⟨_, rfl⟩
      obtain ⟨r, hr⟩ : ∃ r, i % 8 = r := ⟨_, rfl⟩
      have hqi : (i : Int) / 8 = (q : Int) := by omega
      have hri : (i : Int) % 8 = (r : Int) := by omega
      have hq32 : q < 32 := by omega
      have hr8 : r < 8 := by omega
      have hA := has_bit8 f i
      rw [hq, hr] at hA
      have hcc : wr.cell? ⟨w.heap.size, q, none⟩ = some (.int .u8 (oct f q : Nat)) := by
        rw [cell_at HK.out]
        have := octs_get f hq32
        simpa using this
      have HMS := hide (mem_succ (sel f bit) i)
      have hml : (Ds.mem (sel f bit) i).length ≤ i := cnt_le _ _
      clear hq hr
      by_cases hm : f i = bit
      · have hzz : ((if f i then 1 else 0 : Int) == z) = true := by rw [HZ.out, hm]; simp [bv]
        have HSL := hide (show sel f bit i = true from by unfold sel; rw [hm]; simp)
        obtain ⟨v6, w6, k1, k2, k3, k4⟩ := run_row (wr.alloc (.cells #[.int .u8 (i : Nat)] 5)) w.heap.size 46 46 5 i0 _ 1 1 Tryd.underlying46 hi hz0 hz1 hz2 rfl (by decide) (.slice vo (Ds.mem (sel f bit) i).length vc) (.slice (some ⟨wr.heap.size, 0, none⟩) 1 1) (Ds.mem (sel f bit) i).length 1 (u8s (Ds.mem (sel f bit) i)) (u8s [i]) (World.ownsRow.alloc HO.out _) (srcc_byte (heap_new rfl _)) (u8s_one _) (by simp only [maxLen]; omega) (by omega) (by rw [World.size_alloc]; omega)
        obtain ⟨vo6, vc6, rfl⟩ := row_shape k2
        have HR6 := hide k1
        have HB6 := hide (show Below w.heap.size w w6 from (HBr.out.alloc hsr _).grown k3 (by rw [World.size_alloc]; omega) (fun j hj => (World.ownsRow.lt HO.out j hj).1))
        have HO6 := hide (show Own w6 w.heap.size (.slice vo6 ((Ds.mem (sel f bit) i).length + 1) vc6) (Ds.mem (sel f bit) (i + 1)) from by
          unfold Own
          rw [HMS.out, HSL.out, if_pos rfl, u8s_app, List.length_append]
          exact k2)
        have HK6 := hide (keepTy_grown k3 (notTy_row (World.ownsRow.alloc HO.out (.cells #[.int .u8 (i : Nat)] 5)) (t := 89) (by decide)) _ _ _ (heap_old HK.out (.cells #[.int .u8 (i : Nat)] 5)))
        clear k1 k2 k3 k4 hm
        go_wp2_with (at_builtin; refine wpList_run 46 _ w6 _ _ _ rfl (.tmp 23) (.tmp 26) rfl rfl rfl HR6.out ?_)
        exact ⟨⟨i + 1, by simp, by omega, HO6.out, HK6.out, HB6.out⟩, by simp only [intOf]; omega⟩
      · have hzz : ((if f i then 1 else 0 : Int) == z) = false := by
          rw [HZ.out]
          cases h1 : f i <;> cases h2 : bit <;> simp_all [bv]
        have HSL := hide (show sel f bit i = false from by unfold sel; simp [hm])
        have HO6 := hide (show Own wr w.heap.size (.slice vo (Ds.mem (sel f bit) i).length vc) (Ds.mem (sel f bit) (i + 1)) from by
          rw [HMS.out, HSL.out, if_neg (by simp), List.append_nil]
          exact HO.out)
        clear hm
        go_wp2_with fail
        exact ⟨⟨i + 1, by simp, by omega, HO6.out, HK.out, HBr.out⟩, by simp only [intOf]; omega⟩
    · have hib : i = b := by omega
      subst hib
      have hlt2 : ¬ (i : Int) < (i : Int) := by omega
      go_wp2_with fail
      go_ret
      exact ⟨_, rfl, HO.out, HBr.out⟩
end Go.Proofs.YtmkbbekeimnajaaDoor

/-! Wk: the writer's byte and raw, and what lies beside: blocks of an array keep their cells -/
namespace Go.Proofs.YtmkbbekeimnajaaDoor
open Go.RowKit
theorem keepTy_refl (w : World) (t : TypeId) : KeepTy w w t := fun _ _ _ h => h
theorem keepTy_alloc (w : World) (o : Obj) (t : TypeId) : KeepTy w (w.alloc o) t := fun _ _ _ h => heap_old h o
theorem writer_byte_k (w : World) (B p x : Nat) (bs : List Nat) (hW : WriterIs w B p bs) (hlen : bs.length + 1 ≤ 140737488355328) :
    Calls Tryd.prog 51 #[.pointer (some ⟨p, 0, none⟩), .int .u8 x] w fun e w' => e = .returned (.tuple #[]) ∧ WriterIs w' B p (bs ++ [x]) ∧ Below B w w' ∧ KeepTy w w' 89 := by
  obtain ⟨hB, v, hp, hv⟩ := hW
  obtain ⟨i0, hi, hz0, hz1, hz2⟩ := info_parts info5
  have hlt := heap_lt hp
  have hc := cell_of_one hp
  have hcA := fun o => cell_of_one (heap_old hp o)
  have HP := hide hp
  have HL := hide hlen
  clear hp
  go_enter Tryd.func51, Tryd.ntmps51
  go_wp2_with (at_builtin; refine wpList_append_own _ rfl (.tmp 8) (.tmp 10) 46 rfl B 5 i0 (.int .u8 0) 1 1 Tryd.underlying46 hi hz0 hz1 hz2 rfl (by decide) _ _ _ rfl (hv.alloc _) ⟨w.heap.size, 0, none⟩ 1 1 [.int .u8 x] rfl rfl ?c1 ?c2 ?c3 ?c4 ?c5 ?_)
  case c1 => exact one_new _ _ _
  case c2 => intro u hu; simp at hu; subst hu; rfl
  case c3 => unfold maxLen; omega
  case c4 => omega
  case c5 => simp; omega
  intro v' w1 hown hg _
  have hW2 := writer_grown (ys := bs ++ [x]) hB (heap_old HP.out _) (hv.alloc _) (by rw [u8s_app, List.length_append]; exact hown) hg (by simp; omega)
  have hp1 := (hg.block p (by simp; omega) (fun e => row_block (by decide) hv HP.out e.symm)).trans (heap_old HP.out _)
  have hc1 := cell_of_one hp1
  have hf1 := free_of_one hp1
  obtain ⟨g, cap, rfl⟩ := Joins.ownsRow_form hown (by omega)
  have HT := hide (((keepTy_alloc w (.cells #[.int .u8 x] 5) 89).trans (keepTy_grown hg (notTy_row (hv.alloc _) (by decide)))).trans (keepTy_at hp1 (by decide) (i := 0) (.slice (some ⟨g, 0, none⟩) (bs.length + 1) cap)))
  have HW := hide hW2
  clear hW2 hp1 hown hg
  go_wp2
  go_end0
  exact ⟨rfl, HW.out.1, ((Below.refl B w).alloc (by omega) _).trans HW.out.2, HT.out⟩
theorem writer_raw_some_k (w : World) (B p : Nat) (bs ys : List Nat) (ad : Addr) (cap : Nat) (hW : WriterIs w B p bs) (hs : B ≤ w.heap.size)
    (hn : ∀ (j : Nat) (u : Value), (u8s ys)[j]? = some u → w.cell? (ad.add j) = some u) (hlen : bs.length + ys.length ≤ 140737488355328) :
    Calls Tryd.prog 52 #[.pointer (some ⟨p, 0, none⟩), .slice (some ad) ys.length cap] w fun e w' => e = .returned (.tuple #[]) ∧ WriterIs w' B p (bs ++ ys) ∧ Below B w w' ∧ KeepTy w w' 89 := by
  obtain ⟨hB, v, hp, hv⟩ := hW
  obtain ⟨i0, hi, hz0, hz1, hz2⟩ := info_parts info5
  have hlt := heap_lt hp
  have hc := cell_of_one hp
  have HP := hide hp
  have HL := hide hlen
  clear hp
  go_enter Tryd.func52, Tryd.ntmps52
  go_wp2_with (at_builtin; refine wpList_append_own _ rfl (.tmp 8) (.tmp 9) 46 rfl B 5 i0 (.int .u8 0) 1 1 Tryd.underlying46 hi hz0 hz1 hz2 rfl (by decide) _ _ _ rfl hv ad ys.length cap (u8s ys) rfl ?c0 ?c1 ?c2 ?c3 ?c4 ?c5 ?_)
  case c0 => simp [u8s_len]
  case c1 => exact hn
  case c2 => exact u8s_one _
  case c3 => unfold maxLen; omega
  case c4 => omega
  case c5 => omega
  intro v' w1 hown hg hnil
  have hW2 := writer_grown (ys := bs ++ ys) hB HP.out hv (by rw [u8s_app, List.length_append]; exact hown) hg hs
  have hp1 := (hg.block p (by omega) (fun e => row_block (by decide) hv HP.out e.symm)).trans HP.out
  have hc1 := cell_of_one hp1
  have hf1 := free_of_one hp1
  have hform := Joins.ownsRow_forms hown
  have HT := hide (fun x => (keepTy_grown hg (notTy_row hv (by decide))).trans (keepTy_at (t := 89) hp1 (by decide) (i := 0) x))
  have HW := hide hW2
  clear hW2 hp1 hown hg hnil
  rcases hform with ⟨rfl, _⟩ | ⟨g, cap, rfl⟩
  all_goals
    go_wp2
    go_end0
    exact ⟨rfl, HW.out.1, HW.out.2, HT.out _⟩
set_option maxHeartbeats 400000 in
theorem writer_raw_none_k (w : World) (B p : Nat) (bs : List Nat) (hW : WriterIs w B p bs) :
    Calls Tryd.prog 52 #[.pointer (some ⟨p, 0, none⟩), .slice none 0 0] w fun e w' => e = .returned (.tuple #[]) ∧ WriterIs w' B p bs ∧ Below B w w' ∧ KeepTy w w' 89 := by
  obtain ⟨hB, v, hp, hv⟩ := hW
  obtain ⟨i0, hi, hz0, hz1, hz2⟩ := info_parts info5
  have hc := cell_of_one hp
  have hf := free_of_one hp
  have hform := Joins.ownsRow_forms hv
  have HP := hide hp
  clear hp
  have hfin : WriterIs (w.setCell ⟨p, 0, none⟩ v) B p bs ∧ Below B w (w.setCell ⟨p, 0, none⟩ v) ∧ KeepTy w (w.setCell ⟨p, 0, none⟩ v) 89 := ⟨⟨hB, v, one_setCell HP.out, ownsRow_setCell_other hv (row_block (by decide) hv HP.out) _⟩, below_set (Below.refl _ _) hB _, keepTy_at HP.out (by decide) _⟩
  have HF := hide hfin
  clear hfin
  rcases hform with ⟨rfl, h0⟩ | ⟨g, cap, rfl⟩
  all_goals
    go_enter Tryd.func52, Tryd.ntmps52
    go_wp2_with (at_builtin; refine wpList_append_own_none rfl (.tmp 8) (.tmp 9) 46 rfl B 5 i0 1 Tryd.underlying46 hi _ _ _ rfl hv rfl ?_)
    go_end0
    exact ⟨rfl, HF.out⟩
theorem writer_raw_k (w : World) (B p : Nat) (bs ys : List Nat) (v : Value) (hW : WriterIs w B p bs) (hs : B ≤ w.heap.size) (hv : Src w v ys) (hlen : bs.length + ys.length ≤ 140737488355328) :
    Calls Tryd.prog 52 #[.pointer (some ⟨p, 0, none⟩), v] w fun e w' => e = .returned (.tuple #[]) ∧ WriterIs w' B p (bs ++ ys) ∧ Below B w w' ∧ KeepTy w w' 89 := by
  rcases hv with ⟨_, ⟨rfl, rfl⟩ | ⟨ad, cap, rfl, _, _, hc⟩⟩
  · rw [List.append_nil]
    exact writer_raw_none_k w B p bs hW
  · exact writer_raw_some_k w B p bs ys ad cap hW hs (src_news hc) hlen
end Go.Proofs.YtmkbbekeimnajaaDoor

/-! Bo2: blockOf -/
namespace Go.Proofs.YtmkbbekeimnajaaDoor
open Go.RowKit Ds
theorem size89 : (Tryd.prog.info? 89).map (·.size) = some 32 := by kernel_rfl
theorem octs_one (m : Nat → Bool) : (octs m).toArray.all (·.oneCell') = true := by
  rw [Array.all_eq_true']
  intro u hu
  simp only [List.mem_toArray, octs, List.mem_map] at hu
  obtain ⟨j, _, rfl⟩ := hu
  rfl
theorem cnt_step (m : Nat → Bool) (i : Nat) (b : Bool) (h : m i = b) : cnt m (i + 1) = cnt m i + if b then 1 else 0 := by rw [cnt_succ, h]
theorem results_cell3 {P : Program} {fn : Func} {p u v : Tmp} {ty : TypeId} (h : fn.results = #[.cell p ty, .tmp u, .tmp v]) (tmps : Array Value) (w : World) (g : Nat) (t : TypeId) (cs : Array Value) (fr : Nat × Nat) (d : TypeDesc)
    (hp : tmps.getD p undef = .pointer (some ⟨g, 0, none⟩)) (hg : w.heap[g]? = some (.cells cs t fr))
    (hu : P.underlying ty = some d) (hd : (match d with | .struct _ | .array _ _ => true | _ => false) = true) (hi : (P.info? ty).map (·.size) = some cs.size) :
    (results fn tmps).run P w = .ok (.tuple #[.agg cs, tmps.getD u undef, tmps.getD v undef]) w := by
  have hp' : tmps[p]?.getD undef = .pointer (some ⟨g, 0, none⟩) := by simpa using hp
  simp [results, h, hp', asAddr, run_loadVar_row w g t ty cs fr d hg hu hd hi, Result.andThen]
set_option maxRecDepth 100000 in
set_option maxHeartbeats 4000000 in
theorem block_of (w : World) {S g cap n : Nat} {m : Nat → Bool} (h : SetAt w S g cap n m) (j : Nat) (hj : 256 * j < n) :
    Calls Tryd.prog 49 #[.pointer (some ⟨S, 0, none⟩), .int .i64 (j : Nat)] w fun e w' => e = .returned (.tuple #[.agg (octs (blk m j)).toArray, .int .i64 (wid n j : Nat), .int .i64 (cnt (blk m j) (wid n j) : Nat)]) ∧ Below w.heap.size w w' := by
  have HS := hide h
  have hsm := h.small
  have hq := ((Below.refl w.heap.size w).alloc (Nat.le_refl _) (.cells (octs (fun _ => false)).toArray 89)).alloc (by simp) (.cells (octs (fun _ => false)).toArray 89)
  have HB := hide hq
  have HA := hide (heap_alloc2_old w (.cells (octs (fun _ => false)).toArray 89) (.cells (octs (fun _ => false)).toArray 89))
  have HN := hide (heap_alloc2_new w (.cells (octs (fun _ => false)).toArray 89) (.cells (octs (fun _ => false)).toArray 89))
  rw [← octs_none] at hq HB HA HN
  have HZ := hide octs_none
  obtain ⟨b, hb⟩ : ∃ b, wid n j = b := ⟨_, rfl⟩
  have hbw : b ≤ 256 := by rw [← hb]; exact wid_le n j
  have hmin : min (256 : Int) ((n : Int) - 256 * (j : Int)) = (b : Int) := by rw [← hb]; unfold wid; omega
  have hif : (if (n : Int) - 256 * (j : Int) < 256 then (n : Int) - 256 * (j : Int) else 256) = (b : Int) := by rw [← hb]; unfold wid; split <;> omega
  have hbn : 256 * j + b ≤ n := by rw [← hb]; unfold wid; omega
  have HBE := hide hb
  rw [hb]
  obtain ⟨c0, c1, c2⟩ := cells3 (HS.out.keep hq).hd
  obtain ⟨f, hf⟩ : ∃ f, blk m j = f := ⟨_, rfl⟩
  have HF := hide (fun i => congrFun hf i)
  rw [hf]
  have HFE := hide hf
  clear hf
  clear hb hq h
  go_enter Tryd.func49, Tryd.ntmps49
  go_upto_region 2 with (fail)
  generalize (w.alloc _).alloc _ = w2 at *
  have hs2 := HB.out.size
  rw [HZ.out] at HA HN
  go_wp2_with fail
  clear c0 c1 c2 hmin hif
  go_loopw [9, 20] (fun c k wr => ∃ i : Nat, k = .int .i64 (i : Nat) ∧ c = .int .i64 (cnt f i : Nat) ∧ i ≤ b ∧ wr.heap[w.heap.size + 1]? = some (.cells (octs (below f i)).toArray 89 (0, 0)) ∧ wr.heap[w.heap.size]? = some (.cells (octs (fun _ => false)).toArray 89 (0, 0)) ∧ Below w.heap.size w wr) (fun _ k _ => b - (intOf k).toNat)
  case atStart => exact ⟨0, rfl, by simp [cnt, Ds.mem], by omega, by rw [below_zero]; exact HN.out, HA.out, HB.out⟩
  case round =>
    obtain ⟨i, rfl, rfl, hi, hk1, hk2, hbr⟩ := hrel
    have HK1 := hide hk1
    have HK2 := hide hk2
    have HBr := hide hbr
    have hsr := hbr.size
    clear hk1 hk2 hbr HA HN HB
    by_cases hlt : i < b
    · have hi1 : (i : Int) < (b : Int) := by omega
      obtain ⟨y, hy⟩ : ∃ y, 256 * j + i = y := ⟨_, rfl⟩
      have hyi : 256 * (j : Int) + (i : Int) = (y : Int) := by omega
      have hyn : y < n := by omega
      have HHA := hide (has_in wr (HS.out.keep HBr.out) y hyn)
      have hmy : m y = f i := by rw [← hy]; exact HF.out i
      rw [hmy] at HHA
      clear hy hmy
      have hcf : cnt f i ≤ i := cnt_le f i
      cases hm : f i with
      | true =>
        rw [hm] at HHA
        obtain ⟨q, hq⟩ : ∃ q, i / 8 = q := ⟨_, rfl⟩
        obtain ⟨r, hr⟩ : ∃ r, i % 8 = r := ⟨_, rfl⟩
        have hqi : (i : Int) / 8 = (q : Int) := by omega
        have hri : (i : Int) % 8 = (r : Int) := by omega
        have hq32 : q < 32 := by omega
        have hO := or_bit8 (below f i) i
        rw [hq, hr, IntKind.wrap_u8] at hO
        have HPU := hide (show ((octs (below f i)).toArray.setIfInBounds q (.int .u8 (oct (put (below f i) i true) q : Nat))) = (octs (below f (i + 1))).toArray from by rw [← hq, octs_put, below_yes hm])
        have HC := hide (cnt_step f i true hm)
        have hcc : wr.cell? ⟨w.heap.size + 1, q, none⟩ = some (.int .u8 (oct (below f i) q : Nat)) := by
          rw [cell_at HK1.out]
          have := octs_get (below f i) hq32
          simpa using this
        have hff := free_at HK1.out q
        have hw1 : IntKind.i64.wrap ((cnt f i : Int) + 1) = (cnt f i : Int) + 1 := by rw [IntKind.wrap_i64]; omega
        have hr8 : r < 8 := by omega
        clear hq hr hm
        go_wp2_with fail
        refine HHA.out.mono ?_
        rintro e wz ⟨rfl, rfl⟩
        go_wp2_with fail
        go_region
        go_wp2_with fail
        refine ⟨⟨i + 1, by simp, by rw [HC.out]; simp, by omega, ?_, heap_else HK2.out (by omega) _, (below_set HBr.out (by omega) _).drew⟩, by simp [intOf]; omega⟩
        show (wr.setCell ⟨w.heap.size + 1, q, none⟩ (.int .u8 (oct (put (below f i) i true) q : Nat))).heap[w.heap.size + 1]? = _
        rw [heap_set HK1.out, HPU.out]
      | false =>
        rw [hm] at HHA
        have HBE2 := hide (below_no hm)
        have HC := hide (cnt_step f i false hm)
        clear hm
        go_wp2_with fail
        refine HHA.out.mono ?_
        rintro e wz ⟨rfl, rfl⟩
        go_wp2_with fail
        exact ⟨⟨i + 1, by simp, by rw [HC.out]; simp, by omega, by rw [HBE2.out]; exact HK1.out, HK2.out, HBr.out⟩, by simp [intOf]; omega⟩
    · obtain rfl : i = b := by omega
      go_wp2_with (first
        | refine wpList_load_row rfl 89 (.tmp 7) rfl (w.heap.size + 1) rfl 89 _ (0, 0) _ HK1.out Tryd.underlying89 rfl size89 ?_
        | refine wpList_store_row rfl 89 (.tmp 4) (.tmp 41) rfl w.heap.size _ rfl rfl 89 _ HK2.out size89 rfl (octs_one _) ?_)
      have hset := setRow_heap wr w.heap.size _ (octs (below f i)).toArray 89 (0, 0) HK2.out
      refine bodyPost_ret (results_cell3 rfl _ _ w.heap.size 89 _ (0, 0) _ rfl hset Tryd.underlying89 rfl size89) rfl ⟨?_, ?_⟩
      · have he : octs (below f i) = octs f := octs_congr fun k hk => by
          unfold below
          by_cases hkb : k < i
          · rw [decide_eq_true hkb, Bool.true_and]
          · rw [decide_eq_false hkb, Bool.false_and, ← HFE.out]
            have := HBE.out
            unfold wid at this
            exact (HS.out.off (256 * j + k) (by omega)).symm
        rw [he]
        rfl
      · exact below_setRow HBr.out (Nat.le_refl _) _
end Go.Proofs.YtmkbbekeimnajaaDoor

/-! Sa: the slice of an array variable -/
namespace Go.Proofs.YtmkbbekeimnajaaDoor
open Go.RowKit
theorem wpList_slice_arr {P : Program} {ops : Array Oper} {rest : List Oper} {o : Oper} {a : Act} {w : World} {Q : Exit → Act → World → Prop} (hgd : o.guard = none) (ty : TypeId) (x y : Operand) (ho : o.op = .slice ty x none (some y) none)
    (g : Nat) (hx : a.eval x = .pointer (some ⟨g, 0, none⟩)) (q N : Nat) (hh : a.eval y = .int .i64 (q : Nat)) (el : TypeId) (hu : P.underlying ty = some (.array N el)) (i : TypeInfo) (hi : P.info? el = some i) (hq : q ≤ N) (hN : N ≠ 0)
    (h : wpList P ops Q rest (a.put o.dst (.slice (some ⟨g, 0, none⟩) q N)) w) : wpList P ops Q (o :: rest) a w :=
  wpList_plain hgd fun _ hK => by
    have hb : (⟨g, 0, none⟩ : Addr).add 0 = ⟨g, 0, none⟩ := by unfold Addr.add; split <;> simp_all
    unfold Oper.wp execOp
    simp only [ho, hx, hh, Option.map, Instr.sliceAt, Instr.sureAddr, Instr.sliceBounds, Instr.sliceBound, Sem.run_bind, Sem.run_pure, Result.andThen_ok, run_underlying hu]
    simp [asIntOf, Sem.run_pure, hN, hq, sizeOf, typeInfo, hi, hb]
    exact hK _ _ h
end Go.Proofs.YtmkbbekeimnajaaDoor
