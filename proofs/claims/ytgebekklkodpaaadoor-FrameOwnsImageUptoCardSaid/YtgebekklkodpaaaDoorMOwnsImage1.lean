/- texts of this proof, one behind the other: RdNum RefNum Wo Num Lk RefEnc Lives Tw Join Alg Dl Dc -/
import Derived.Test.YtgebekklkodpaaaDoorMOwnsImage0
import Derived.OwnWalk
import Derived.LaidEql
import Derived.WideLaws
import Derived.Deep.DeepCutAuto
import Derived.Lib.SlBytesConst
import Derived.Deep.RegionHeld3
/-! RdNum: codec.Reader.Uvarint, from a new reader -/
namespace Go.Proofs.YtgebekklkodpaaaDoor
open Go.RowKit

/-- what Uvarint answers -/
def NumOut (E : Nat → Addr) (bs : List Nat) (e : Ending) : Prop :=
  ((Nm.num 10 0 bs).2 = 0 ∧ e = .returned (.tuple #[.int .u64 (Nm.val (bs.take (Nm.num 10 0 bs).1) : Nat), .nilIface])) ∨
  ((Nm.num 10 0 bs).2 = 1 ∧ e = .returned (.tuple #[.int .u64 0, .iface 124 (.pointer (some (E 1)))])) ∨
  ((Nm.num 10 0 bs).2 = 2 ∧ e = .returned (.tuple #[.int .u64 0, .iface 124 (.pointer (some (E 2)))]))

theorem rd_drew {w : World} {p a n : Nat} {bv : Value} (h : RdAt w p a bv n) (q : Nat) : RdAt (w.drewN q) p a bv n := h
theorem src_drew {w : World} {v : Value} {bs : List Nat} (h : Src w v bs) (q : Nat) : Src (w.drewN q) v bs := src_keep h (below_drewN (Below.refl _ _) q)

theorem or_val (i x : Nat) (bs : List Nat) (hx : bs[i]? = some x) (hi : i ≤ 9) (h9 : i = 9 → x ≤ 1) :
    bits .or .u64 ((Nm.val (bs.take i) : Nat) : Int) (IntKind.u64.wrap ((x : Int) % 128 * 2 ^ (7 * i))) = ((Nm.val (bs.take (i + 1)) : Nat) : Int) := by
  have hv := Nm.val_take_lt bs i
  have hp : (128 : Nat) ^ i = 2 ^ (7 * i) := by rw [show (128 : Nat) = 2 ^ 7 from rfl, ← Nat.pow_mul]
  have e9 : (2 : Nat) ^ 63 = 9223372036854775808 := by decide
  have hb : x % 128 * 2 ^ (7 * i) < 18446744073709551616 := by
    by_cases h : i = 9
    · have := h9 h
      subst h
      have : x % 128 * 2 ^ (7 * 9) ≤ 1 * 2 ^ 63 := Nat.mul_le_mul (by omega) (by decide)
      omega
    · have h2 : (2 : Nat) ^ (7 * i) ≤ 2 ^ 56 := Nat.pow_le_pow_right (by decide) (by omega)
      have h3 : x % 128 * 2 ^ (7 * i) ≤ 127 * 2 ^ 56 := Nat.mul_le_mul (by omega) h2
      have : (127 : Nat) * 2 ^ 56 < 18446744073709551616 := by decide
      omega
  have hvb : Nm.val (bs.take i) < 18446744073709551616 := by
    have h2 : (128 : Nat) ^ i ≤ 128 ^ 9 := Nat.pow_le_pow_right (by decide) hi
    have : (128 : Nat) ^ 9 < 18446744073709551616 := by decide
    omega
  have ec : ((x : Int) % 128 * 2 ^ (7 * i)) = ((x % 128 * 2 ^ (7 * i) : Nat) : Int) := by simp
  have ew : IntKind.u64.wrap ((x : Int) % 128 * 2 ^ (7 * i)) = ((x % 128 * 2 ^ (7 * i) : Nat) : Int) := by
    rw [ec, IntKind.wrap_u64]
    omega
  rw [ew, u64_or_nat _ _ hvb hb, Nm.val_take hx, hp]
  congr 1
  rw [hp] at hv
  have h := Nat.two_pow_add_eq_or_of_lt hv (x % 128)
  rw [Nat.mul_comm, Nat.add_comm] at h
  rw [h, Nat.or_comm, Nat.mul_comm]
theorem rd_set {w : World} {p a n : Nat} {bv : Value} (h : RdAt w p a bv n) (b : Nat) : RdAt (w.setCell ⟨p, 0, none⟩ (.int .i64 (b : Nat))) p b bv n := heap_set h _
theorem src_cell {w : World} {ao : Option Addr} {n cap i x : Nat} {bs : List Nat} (h : Src w (.slice ao n cap) bs) (hx : bs[i]? = some x) : ∃ ad, ao = some ad ∧ w.cell? (ad.add i) = some (.int .u8 x) := by
  rcases h with ⟨_, ⟨_, rfl⟩ | ⟨ad, c, hv, _, _, hc⟩⟩
  · simp at hx
  · simp only [Value.slice.injEq] at hv
    exact ⟨ad, hv.1, hc i x hx⟩

set_option maxRecDepth 100000 in
set_option maxHeartbeats 4000000 in
theorem reader_uvarint (w : World) (B p : Nat) (bv : Value) (bs : List Nat) (hB : B ≤ p) (hR : RdAt w p 0 bv bs.length) (hs : Src w bv bs) (hl : bs.length ≤ 140737488355328) (E : Nat → Addr) (hE1 : ErrAt w 1 (E 1)) (hE2 : ErrAt w 2 (E 2)) (hg : 2 < B) :
    Calls Tryd.prog 74 #[.pointer (some ⟨p, 0, none⟩)] w fun e w' => NumOut E bs e ∧ Below B w w' ∧ ((Nm.num 10 0 bs).2 = 0 → RdAt w' p (Nm.num 10 0 bs).1 bv bs.length) := by
  obtain ⟨ao, cap, rfl⟩ := src_form hs
  have HR := hide hR
  have HS := hide hs
  have HE1 := hide hE1
  have HE2 := hide hE2
  clear hR hs hE1 hE2
  go_enter Tryd.func74, Tryd.ntmps74
  go_wp2_with fail
  go_loopw [4, 5] (fun v c wr => ∃ i : Nat, i ≤ 9 ∧ c = .int .i64 i ∧ v = .int .u64 (Nm.val (bs.take i) : Nat) ∧ Nm.num 10 0 bs = Nm.num (10 - i) i bs ∧ RdAt wr p 0 (.slice ao bs.length cap) bs.length ∧ Src wr (.slice ao bs.length cap) bs ∧ Below B w wr) (fun _ c _ => 10 - (intOf c).toNat)
  case atStart => exact ⟨0, by omega, rfl, rfl, rfl, HR.out, HS.out, Below.refl _ _⟩
  case round =>
    obtain ⟨i, hi, rfl, rfl, hnum, hR, hS, hb⟩ := hrel
    have HN := hide hnum
    have HR' := hide hR
    have HS' := hide hS
    have HB' := hide hb
    clear hnum hR hS hb
    go_wp2_with fail
    refine (left_any wr p 0 bs.length _ HR'.out (by omega) (by omega)).mono ?_
    rintro e w1 ⟨rfl, q, rfl⟩
    have HR1 := hide (rd_drew HR'.out q)
    have HS1 := hide (src_drew HS'.out q)
    have HB1 := hide (below_drewN HB'.out q)
    clear HR' HS' HB'
    generalize wr.drewN q = w1 at HR1 HS1 HB1
    by_cases hlt : i < bs.length
    · obtain ⟨x, hx⟩ : ∃ x, bs[i]? = some x := ⟨_, List.getElem?_eq_getElem hlt⟩
      have HX := hide hx
      have hx256 := HS1.out.1 x (List.mem_of_getElem? hx)
      obtain ⟨h0, h1, h2⟩ := cells3 HR1.out
      clear hx
      obtain ⟨ad, rfl, hxc⟩ := src_cell HS1.out HX.out
      have hw0 : IntKind.i64.wrap ((0 : Int) + i) = (i : Int) := by rw [IntKind.wrap_i64]; omega
      go_wp2_with fail
      go_quiet (fail)
      have HR2 := hide (rd_drew HR1.out nq)
      have HS2 := hide (src_drew HS1.out nq)
      have HB2 := hide (below_drewN HB1.out nq)
      clear HR1 HS1 HB1 h0 h1 h2 hxc
      generalize w1.drewN nq = w2 at HR2 HS2 HB2
      obtain ⟨g0, g1, g2⟩ := cells3 HR2.out
      have HG0 := hide g0
      have e4 : bits .and .u8 (x : Int) 127 = ((x % 128 : Nat) : Int) := by
        have := u8_and_nat x 127 hx256 (by omega)
        rw [nat_mask7] at this
        exact this
      have e5 : IntKind.i64.wrap (7 * (i : Int)) = ((7 * i : Nat) : Int) := by rw [IntKind.wrap_i64]; omega
      have hstep : Nm.num (10 - i) i bs = if i = 9 ∧ 1 < x then (0, 2) else if 128 ≤ x then Nm.num (10 - (i + 1)) (i + 1) bs else if x = 0 ∧ 0 < i then (0, 2) else (i + 1, 0) := by
        rw [show 10 - i = (9 - i) + 1 by omega, Nm.num, HX.out, show 10 - (i + 1) = 9 - i by omega]
      have HST := hide (HN.out.trans hstep)
      clear hstep
      by_cases hA : i = 9 ∧ 1 < x
      · obtain ⟨rfl, hx1⟩ := hA
        have hr : Nm.num 10 0 bs = (0, 2) := by rw [HST.out, if_pos ⟨rfl, hx1⟩]
        have HRR := hide hr
        have hx2 : 1 < (x : Int) := by omega
        have hE := err_below HE2.out HB2.out hg
        unfold ErrAt at hE
        clear hr
        go_wp2_with fail
        go_quiet (fail)
        go_wp2
        go_ret2
        exact ⟨.inr (.inr ⟨by rw [HRR.out], rfl⟩), below_drewN HB2.out _, fun h => by rw [HRR.out] at h; simp at h⟩
      · by_cases hC : 128 ≤ x
        · have hi8 : i ≤ 8 := by omega
          have e1 : ((i : Int) == 9) = false := by simp; omega
          have e2 : 128 ≤ (x : Int) := by omega
          have e3 : ((i : Int) = 9) = False := by simp; omega
          have hr : Nm.num 10 0 bs = Nm.num (10 - (i + 1)) (i + 1) bs := by rw [HST.out, if_neg hA, if_pos hC]
          have HRR := hide hr
          have HV := hide (or_val i x bs HX.out (by omega) (fun h => by omega))
          clear hr
          go_wp2_with fail
          exact ⟨⟨i + 1, by omega, by simp, by rw [HV.out], HRR.out, HR2.out, HS2.out, HB2.out⟩, by simp [intOf]; omega⟩
        · by_cases hD : x = 0 ∧ 0 < i
          · obtain ⟨rfl, hi0⟩ := hD
            have hr : Nm.num 10 0 bs = (0, 2) := by rw [HST.out, if_neg hA, if_neg hC, if_pos ⟨rfl, hi0⟩]
            have HRR := hide hr
            have hi1 : 0 < (i : Int) := by omega
            have hE := err_below HE2.out HB2.out hg
            unfold ErrAt at hE
            clear hr
            go_wp2_with fail
            all_goals (go_quiet (fail); go_wp2; go_ret2; exact ⟨.inr (.inr ⟨by rw [HRR.out], rfl⟩), below_drewN HB2.out _, fun h => by rw [HRR.out] at h; simp at h⟩)
          · have hr : Nm.num 10 0 bs = (i + 1, 0) := by rw [HST.out, if_neg hA, if_neg hC, if_neg hD]
            have HRR := hide hr
            have hf := free_at HR2.out 0
            have hw1 : IntKind.i64.wrap ((i : Int) + 1) = ((i + 1 : Nat) : Int) := by rw [IntKind.wrap_i64]; omega
            have hx128 : x % 128 = x := by omega
            have hlx : x < 128 := by omega
            have HV := hide (or_val i x bs HX.out (by omega) (fun h => by omega))
            have HRD := hide (rd_set HR2.out (i + 1))
            have HBD := hide (below_set (i := 0) HB2.out hB (.int .i64 ((i + 1 : Nat) : Int)))
            clear hr
            by_cases h9 : i = 9
            · subst h9
              by_cases hx0 : x = 0
              · exact absurd ⟨hx0, by decide⟩ hD
              · have hx1 : x = 1 := by omega
                subst hx1
                go_wp2_with fail
                have hval : bits .or .u64 ((Nm.val (bs.take 9) : Nat) : Int) (IntKind.u64.wrap (IntKind.u64.wrap (bits .and .u8 1 127) * 9223372036854775808)) = ((Nm.val (bs.take 10) : Nat) : Int) := HV.out
                go_ret2
                refine ⟨.inl ⟨by rw [HRR.out], ?_⟩, HBD.out, fun _ => by rw [HRR.out]; exact HRD.out⟩
                rw [HRR.out, hval]
                rfl
            · have e1 : ((i : Int) == 9) = false := by simp; omega
              have e3 : ((i : Int) = 9) = False := by simp; omega
              by_cases hx0 : x = 0
              · have hi0 : i = 0 := by omega
                subst hi0
                subst hx0
                go_wp2_with fail
                have hval : bits .or .u64 ((Nm.val [] : Nat) : Int) (IntKind.u64.wrap (IntKind.u64.wrap (bits .and .u8 0 127))) = ((Nm.val (bs.take 1) : Nat) : Int) := HV.out
                go_ret2
                refine ⟨.inl ⟨by rw [HRR.out], ?_⟩, HBD.out, fun _ => by rw [HRR.out]; exact HRD.out⟩
                rw [HRR.out, hval]
                rfl
              · have ex : ((x : Int) == 0) = false := by simp; omega
                have ex2 : ((x : Int) = 0) = False := by simp; omega
                go_wp2_with fail
                have hm : (x : Int) % 128 = x := by omega
                have hval := HV.out
                rw [hm] at hval
                go_ret2
                refine ⟨.inl ⟨by rw [HRR.out], ?_⟩, HBD.out, fun _ => by rw [HRR.out]; exact HRD.out⟩
                rw [HRR.out, hval]
                rfl
    · have hge : (bs.length : Int) ≤ i := by omega
      have hr : Nm.num 10 0 bs = (0, 1) := by
        rw [HN.out, show 10 - i = (9 - i) + 1 by omega, Nm.num, List.getElem?_eq_none (by omega)]
      have HRR := hide hr
      have hE := err_below HE1.out HB1.out (by omega)
      unfold ErrAt at hE
      clear hr
      go_wp2_with fail
      go_quiet (fail)
      go_wp2
      go_ret2
      exact ⟨.inr (.inl ⟨by rw [HRR.out], rfl⟩), below_drewN HB1.out _, fun h => by rw [HRR.out] at h; simp at h⟩
end Go.Proofs.YtgebekklkodpaaaDoor

/-! RefNum: the reference's number -/
namespace Go.Proofs.YtgebekklkodpaaaDoor
open Go.RowKit

/-- what number answers -/
def RefNumOut (bs : List Nat) (e : Ending) : Prop :=
  ((Nm.num 10 0 bs).2 = 0 ∧ e = .returned (.tuple #[.int .u64 (Nm.val (bs.take (Nm.num 10 0 bs).1) : Nat), .int .i64 ((Nm.num 10 0 bs).1 : Nat), .int .i64 0])) ∨
  ((Nm.num 10 0 bs).2 = 1 ∧ e = .returned (.tuple #[.int .u64 0, .int .i64 0, .int .i64 1])) ∨
  ((Nm.num 10 0 bs).2 = 2 ∧ e = .returned (.tuple #[.int .u64 0, .int .i64 0, .int .i64 2]))

theorem Tryd.results69 : Tryd.f69.results = #[.tmp 2, .tmp 3, .tmp 4] := rfl
theorem wrap_val (y a b : Nat) (h : b = y % 128 + 128 * a) (hb : b < 18446744073709551616) : IntKind.u64.wrap (IntKind.u64.wrap ((a : Int) * 128) + (y : Int) % 128) = (b : Int) := by
  have h1 : IntKind.u64.wrap ((a : Int) * 128) = (a : Int) * 128 := by rw [IntKind.wrap_u64]; omega
  rw [h1, IntKind.wrap_u64]
  omega
set_option maxRecDepth 100000 in
set_option maxHeartbeats 4000000 in
theorem ref_number (w : World) (v : Value) (bs : List Nat) (hs : Src w v bs) (hl : bs.length ≤ 140737488355328) :
    Calls Tryd.prog 69 #[v] w fun e w' => RefNumOut bs e ∧ w = w' := by
  obtain ⟨ao, cap, rfl⟩ := src_form hs
  have HS := hide hs
  clear hs
  go_enter Tryd.func69, Tryd.ntmps69
  go_wp2_with fail
  go_loopw [5] (fun c wr => ∃ i : Nat, i ≤ 10 ∧ c = .int .i64 ((i : Int) + 1) ∧ Nm.num 10 0 bs = Nm.num (10 - i) i bs ∧ wr = w) (fun c _ => 12 - (intOf c).toNat)
  case atStart => exact ⟨0, by omega, rfl, rfl, rfl⟩
  case round =>
    obtain ⟨i, hi, rfl, hnum, rfl⟩ := hrel
    have HN := hide hnum
    clear hnum
    have hw1 : IntKind.i64.wrap ((i : Int) + 1 - 1) = (i : Int) := by rw [IntKind.wrap_i64]; omega
    have hw2 : IntKind.i64.wrap ((i : Int) + 1 + 1) = (i : Int) + 1 + 1 := by rw [IntKind.wrap_i64]; omega
    by_cases hlt : i < bs.length ∧ i < 10
    · obtain ⟨hlt, hi10⟩ := hlt
      obtain ⟨x, hx⟩ : ∃ x, bs[i]? = some x := ⟨_, List.getElem?_eq_getElem hlt⟩
      have HX := hide hx
      have hx256 := HS.out.1 x (List.mem_of_getElem? hx)
      obtain ⟨ad, rfl, hxc⟩ := src_cell HS.out hx
      have hstep : Nm.num (10 - i) i bs = if i = 9 ∧ 1 < x then (0, 2) else if 128 ≤ x then Nm.num (10 - (i + 1)) (i + 1) bs else if x = 0 ∧ 0 < i then (0, 2) else (i + 1, 0) := by
        rw [show 10 - i = (9 - i) + 1 by omega, Nm.num, hx, show 10 - (i + 1) = 9 - i by omega]
      have HST := hide (HN.out.trans hstep)
      clear hx hstep
      have c1 : (i : Int) + 1 ≤ bs.length := by omega
      have c2 : (i : Int) + 1 ≤ 10 := by omega
      by_cases hA : i = 9 ∧ 1 < x
      · obtain ⟨rfl, hx1⟩ := hA
        have hr : Nm.num 10 0 bs = (0, 2) := by rw [HST.out, if_pos ⟨rfl, hx1⟩]
        have HRR := hide hr
        have hx2 : 1 < (x : Int) := by omega
        have hx3 : 9 < bs.length := hlt
        have hxc9 : wr.cell? { block := ad.block, off := ad.off + 9 } = some (.int .u8 (x : Int)) := hxc
        clear hr
        go_wp2
        all_goals (refine bodyPost_ret (results_tmp3 (t := 2) (u := 3) (v := 4) (Tryd.results69) _ _ _) rfl ?_; exact ⟨.inr (.inr ⟨by rw [HRR.out], rfl⟩), rfl⟩)
      · by_cases hC : 128 ≤ x
        · have hi8 : (i : Int) + 1 < 10 := by omega
          have e2 : 128 ≤ (x : Int) := by omega
          have hr : Nm.num 10 0 bs = Nm.num (10 - (i + 1)) (i + 1) bs := by rw [HST.out, if_neg hA, if_pos hC]
          have HRR := hide hr
          clear hr
          go_wp2_with fail
          exact ⟨⟨i + 1, by omega, by simp, HRR.out, trivial⟩, by simp [intOf]; omega⟩
        · by_cases hD : x = 0 ∧ 0 < i
          · obtain ⟨rfl, hi0⟩ := hD
            have hr : Nm.num 10 0 bs = (0, 2) := by rw [HST.out, if_neg hA, if_neg hC, if_pos ⟨rfl, hi0⟩]
            have HRR := hide hr
            have hi1 : 0 < (i : Int) := by omega
            clear hr
            by_cases h9 : i = 9
            · subst h9
              have hx3 : 9 < bs.length := hlt
              have hxc9 : wr.cell? { block := ad.block, off := ad.off + 9 } = some (.int .u8 0) := hxc
              go_wp2
              all_goals (refine bodyPost_ret (results_tmp3 (t := 2) (u := 3) (v := 4) Tryd.results69 _ _ _) rfl ?_; exact ⟨.inr (.inr ⟨by rw [HRR.out], rfl⟩), rfl⟩)
            · have e1 : ((i : Int) + 1 == 10) = false := by simp; omega
              have e3 : ((i : Int) = 9) = False := by simp; omega
              go_wp2
              go_ret3
              exact ⟨.inr (.inr ⟨by rw [HRR.out], rfl⟩), rfl⟩
          · have hr : Nm.num 10 0 bs = (i + 1, 0) := by rw [HST.out, if_neg hA, if_neg hC, if_neg hD]
            have HRR := hide hr
            have HVL := hide (Nm.val_ok hr)
            have hlx : x < 128 := by omega
            clear hr
            by_cases h9 : i = 9
            · subst h9
              have hx1 : ¬ 1 < x := fun h => hA ⟨rfl, h⟩
              have hx0 : x ≠ 0 := fun h => hD ⟨h, by decide⟩
              have hx3 : 9 < bs.length := hlt
              obtain rfl : x = 1 := by omega
              have hxc9 : wr.cell? { block := ad.block, off := ad.off + 9 } = some (.int .u8 1) := hxc
              go_wp2_with fail
              go_loopw [6, 7] (fun v c wq => ∃ j : Nat, j ≤ 10 ∧ c = .int .i64 ((j : Int) - 1) ∧ v = .int .u64 (Nm.val ((bs.take (10)).drop j) : Nat) ∧ wq = wr) (fun _ c _ => (intOf c + 1).toNat)
              case atStart => exact ⟨10, by omega, rfl, by rw [show (bs.take (10)).drop (10) = [] from List.drop_eq_nil_of_le (by rw [List.length_take]; omega)]; rfl, rfl⟩
              case round =>
                obtain ⟨j, hj, rfl, rfl, rfl⟩ := hrel
                cases j with
                | zero =>
                  go_wp2
                  go_ret3
                  exact ⟨.inl ⟨by rw [HRR.out], by rw [HRR.out]; rfl⟩, rfl⟩
                | succ j =>
                  obtain ⟨y, hy⟩ : ∃ y, bs[j]? = some y := ⟨_, List.getElem?_eq_getElem (by omega)⟩
                  have hy2 : (bs.take (10))[j]? = some y := by rw [List.getElem?_take, if_pos (by omega)]; exact hy
                  have hd := Nm.val_drop hy2
                  have hle := Nm.val_drop_le (bs.take (10)) j
                  obtain ⟨ad', ha, hyc⟩ := src_cell HS.out hy
                  obtain rfl := Option.some.inj ha
                  have HD := hide hd
                  have HLE := hide hle
                  clear hd hle hy2 ha hy
                  have HW := hide (wrap_val y (Nm.val ((bs.take 10).drop (j + 1))) (Nm.val ((bs.take 10).drop j)) HD.out (by have := HLE.out; have := HVL.out; simp only [Nat.reduceAdd] at *; omega))
                  go_wp2_with fail
                  exact ⟨⟨j, by omega, rfl, by rw [HW.out], trivial⟩, by simp [intOf]⟩
            · have e1 : ((i : Int) + 1 == 10) = false := by simp; omega
              have e3 : ((i : Int) = 9) = False := by simp; omega
              by_cases hi0 : i = 0
              · subst hi0
                have hxc0 : wr.cell? ad = some (.int .u8 (x : Int)) := by have := hxc; rw [Addr.add_zero'] at this; exact this
                go_wp2_with fail
                go_loopw [6, 7] (fun v c wq => ∃ j : Nat, j ≤ 1 ∧ c = .int .i64 ((j : Int) - 1) ∧ v = .int .u64 (Nm.val ((bs.take 1).drop j) : Nat) ∧ wq = wr) (fun _ c _ => (intOf c + 1).toNat)
                case atStart => exact ⟨1, by omega, rfl, by rw [show (bs.take 1).drop 1 = [] from List.drop_eq_nil_of_le (by rw [List.length_take]; omega)]; rfl, rfl⟩
                case round =>
                  obtain ⟨j, hj, rfl, rfl, rfl⟩ := hrel
                  cases j with
                  | zero =>
                    go_wp2
                    go_ret3
                    exact ⟨.inl ⟨by rw [HRR.out], by rw [HRR.out]; rfl⟩, rfl⟩
                  | succ j =>
                    obtain ⟨y, hy⟩ : ∃ y, bs[j]? = some y := ⟨_, List.getElem?_eq_getElem (by omega)⟩
                    have hy2 : (bs.take 1)[j]? = some y := by rw [List.getElem?_take, if_pos (by omega)]; exact hy
                    have hd := Nm.val_drop hy2
                    have hle := Nm.val_drop_le (bs.take 1) j
                    obtain ⟨ad', ha, hyc⟩ := src_cell HS.out hy
                    obtain rfl := Option.some.inj ha
                    have HD := hide hd
                    have HLE := hide hle
                    clear hd hle hy2 ha hy
                    have HW := hide (wrap_val y (Nm.val ((bs.take 1).drop (j + 1))) (Nm.val ((bs.take 1).drop j)) HD.out (by have := HLE.out; have h2 : Nm.val (bs.take 1) < 18446744073709551616 := HVL.out; omega))
                    go_wp2_with fail
                    exact ⟨⟨j, by omega, rfl, by rw [HW.out], trivial⟩, by simp [intOf]⟩
              · have ex : ((x : Int) == 0) = false := by simp; omega
                have ex2 : ((x : Int) = 0) = False := by simp; omega
                have hi1 : 0 < (i : Int) := by omega
                go_wp2_with fail
                go_loopw [6, 7] (fun v c wq => ∃ j : Nat, j ≤ i + 1 ∧ c = .int .i64 ((j : Int) - 1) ∧ v = .int .u64 (Nm.val ((bs.take (i + 1)).drop j) : Nat) ∧ wq = wr) (fun _ c _ => (intOf c + 1).toNat)
                case atStart => exact ⟨i + 1, by omega, by simp, by rw [show (bs.take (i + 1)).drop (i + 1) = [] from List.drop_eq_nil_of_le (by rw [List.length_take]; omega)]; rfl, rfl⟩
                case round =>
                  obtain ⟨j, hj, rfl, rfl, rfl⟩ := hrel
                  cases j with
                  | zero =>
                    go_wp2
                    go_ret3
                    exact ⟨.inl ⟨by rw [HRR.out], by rw [HRR.out]; rfl⟩, rfl⟩
                  | succ j =>
                    obtain ⟨y, hy⟩ : ∃ y, bs[j]? = some y := ⟨_, List.getElem?_eq_getElem (by omega)⟩
                    have hy2 : (bs.take (i + 1))[j]? = some y := by rw [List.getElem?_take, if_pos (by omega)]; exact hy
                    have hd := Nm.val_drop hy2
                    have hle := Nm.val_drop_le (bs.take (i + 1)) j
                    obtain ⟨ad', ha, hyc⟩ := src_cell HS.out hy
                    obtain rfl := Option.some.inj ha
                    have HD := hide hd
                    have HLE := hide hle
                    clear hd hle hy2 ha hy
                    have HW := hide (wrap_val y (Nm.val ((bs.take (i + 1)).drop (j + 1))) (Nm.val ((bs.take (i + 1)).drop j)) HD.out (by have := HLE.out; have := HVL.out; omega))
                    go_wp2_with fail
                    exact ⟨⟨j, by omega, rfl, by rw [HW.out], trivial⟩, by simp [intOf]⟩
    · have hr : Nm.num 10 0 bs = (0, 1) := by
        rw [HN.out]
        by_cases hi10 : i = 10
        · subst hi10; rfl
        · rw [show 10 - i = (9 - i) + 1 by omega, Nm.num, List.getElem?_eq_none (by omega)]
      have HRR := hide hr
      clear hr
      by_cases c1 : (i : Int) + 1 ≤ bs.length
      · have c2 : ¬ (i : Int) + 1 ≤ 10 := by omega
        go_wp2
        go_ret3
        exact ⟨.inr (.inl ⟨by rw [HRR.out], rfl⟩), rfl⟩
      · go_wp2
        go_ret3
        exact ⟨.inr (.inl ⟨by rw [HRR.out], rfl⟩), rfl⟩
end Go.Proofs.YtgebekklkodpaaaDoor

/-! Wo: frame.word -/
namespace Go.Proofs.YtgebekklkodpaaaDoor
open Go.RowKit

/-- the word that four bytes make -/
def wordOf (a b c d : Nat) : Nat := a + b * 256 + c * 65536 + d * 16777216
theorem word_bytes (v : Nat) (h : v < 4294967296) : wordOf (v % 256) (v / 256 % 256) (v / 65536 % 256) (v / 16777216 % 256) = v := by
  unfold wordOf
  omega
theorem wordOf_lt {a b c d : Nat} (ha : a < 256) (hb : b < 256) (hc : c < 256) (hd : d < 256) : wordOf a b c d < 4294967296 := by unfold wordOf; omega

theorem or_step (a b i : Nat) (ha : a < 2 ^ i) (hi : b * 2 ^ i < 4294967296) (hai : a < 4294967296) : bits .or .u32 (a : Int) ((b : Int) * (2 ^ i : Nat)) = ((a + b * 2 ^ i : Nat) : Int) := by
  have e : (b : Int) * ((2 ^ i : Nat) : Int) = ((b * 2 ^ i : Nat) : Int) := by simp
  rw [e, u32_or_nat a (b * 2 ^ i) hai hi]
  congr 1
  have h := Nat.two_pow_add_eq_or_of_lt ha b
  rw [Nat.mul_comm, Nat.add_comm] at h
  rw [h, Nat.or_comm]
theorem word_or (x0 x1 x2 x3 : Nat) (y0 : x0 < 256) (y1 : x1 < 256) (y2 : x2 < 256) (y3 : x3 < 256) :
    bits .or .u32 (bits .or .u32 (bits .or .u32 (x0 : Int) ((x1 : Int) * 256)) ((x2 : Int) * 65536)) ((x3 : Int) * 16777216) = ((wordOf x0 x1 x2 x3 : Nat) : Int) := by
  have h1 : bits .or .u32 (x0 : Int) ((x1 : Int) * 256) = ((x0 + x1 * 256 : Nat) : Int) := or_step x0 x1 8 y0 (by omega) (by omega)
  have h2 : bits .or .u32 ((x0 + x1 * 256 : Nat) : Int) ((x2 : Int) * 65536) = ((x0 + x1 * 256 + x2 * 65536 : Nat) : Int) := or_step _ x2 16 (by omega) (by omega) (by omega)
  have h3 : bits .or .u32 ((x0 + x1 * 256 + x2 * 65536 : Nat) : Int) ((x3 : Int) * 16777216) = ((x0 + x1 * 256 + x2 * 65536 + x3 * 16777216 : Nat) : Int) := or_step _ x3 24 (by omega) (by omega) (by omega)
  rw [h1, h2, h3]
  rfl
set_option maxRecDepth 100000 in
set_option maxHeartbeats 1000000 in
theorem word_any (w : World) (v : Value) (bs : List Nat) (hs : Src w v bs) (x0 x1 x2 x3 : Nat) (h0 : bs[0]? = some x0) (h1 : bs[1]? = some x1) (h2 : bs[2]? = some x2) (h3 : bs[3]? = some x3) :
    Calls Tryd.prog 72 #[v] w fun e w' => e = .returned (.int .u32 (wordOf x0 x1 x2 x3 : Nat)) ∧ ∃ q, w' = w.drewN q := by
  obtain ⟨ao, cap, rfl⟩ := src_form hs
  have hl : 4 ≤ bs.length := by have := (List.getElem?_eq_some_iff.1 h3).1; omega
  obtain ⟨ad, rfl, c0⟩ := src_cell hs h0
  obtain ⟨ad1, e1, c1⟩ := src_cell hs h1
  obtain ⟨ad2, e2, c2⟩ := src_cell hs h2
  obtain ⟨ad3, e3, c3⟩ := src_cell hs h3
  obtain rfl := Option.some.inj e1
  obtain rfl := Option.some.inj e2
  obtain rfl := Option.some.inj e3
  have y0 := hs.1 x0 (List.mem_of_getElem? h0)
  have y1 := hs.1 x1 (List.mem_of_getElem? h1)
  have y2 := hs.1 x2 (List.mem_of_getElem? h2)
  have y3 := hs.1 x3 (List.mem_of_getElem? h3)
  rw [Addr.add_zero'] at c0
  have d1 : w.cell? { block := ad.block, off := ad.off + 1 } = some (.int .u8 (x1 : Int)) := c1
  have d2 : w.cell? { block := ad.block, off := ad.off + 2 } = some (.int .u8 (x2 : Int)) := c2
  have d3 : w.cell? { block := ad.block, off := ad.off + 3 } = some (.int .u8 (x3 : Int)) := c3
  clear hs h0 h1 h2 h3 e1 e2 e3 c1 c2 c3
  go_enter Tryd.func72, Tryd.ntmps72
  go_wp2_with fail
  go_quiet (fail)
  have hval := word_or x0 x1 x2 x3 y0 y1 y2 y3
  go_wp2
  go_ret
  exact ⟨by rw [← hval]; rfl, _, rfl⟩
end Go.Proofs.YtgebekklkodpaaaDoor

/-! Num: the package-level errors; concordnum.Num -/
namespace Go.Proofs.YtgebekklkodpaaaDoor
open Go.RowKit

/-- the listed errors: each is a pointer to a block of its own -/
structure Errs (w : World) (E : Nat → Addr) (ids : List Nat) : Prop where
  cell : ∀ g ∈ ids, ErrAt w g (E g)
  blk : ∀ g ∈ ids, ∃ c t, w.heap[(E g).block]? = some (.cells c t (0, 0))
  inj : ∀ g ∈ ids, ∀ h ∈ ids, g ≠ h → E g ≠ E h
theorem Errs.below {B : Nat} {w w' : World} {E : Nat → Addr} {ids : List Nat} (h : Errs w E ids) (hb : Below B w w') (hB : w.heap.size ≤ B) (hg : ∀ g ∈ ids, g < B) : Errs w' E ids := by
  refine ⟨fun g hg' => err_below (h.cell g hg') hb (hg g hg'), fun g hg' => ?_, h.inj⟩
  obtain ⟨c, t, hc⟩ := h.blk g hg'
  exact ⟨c, t, (hb.block _ (Nat.lt_of_lt_of_le (heap_lt hc) hB)).trans hc⟩
theorem Errs.mono {w : World} {E : Nat → Addr} {ids js : List Nat} (h : Errs w E ids) (hs : ∀ g ∈ js, g ∈ ids) : Errs w E js :=
  ⟨fun g hg => h.cell g (hs g hg), fun g hg => h.blk g (hs g hg), fun g hg k hk => h.inj g (hs g hg) k (hs k hk)⟩

theorem comp124 : (Tryd.prog.info? 124).map (·.comparable) = some true := by kernel_rfl
theorem size140 : (Tryd.prog.info? 140).map (·.size) = some 1 := by kernel_rfl
theorem err_same (w : World) (a : Addr) : (binOp .eql 28 (.iface 124 (.pointer (some a))) (.iface 124 (.pointer (some a)))).run Tryd.prog w = .ok (.bool true) w := by
  have h1 := comp124
  have h2 := size140
  cases hi : Tryd.prog.info? 124 with
  | none => rw [hi] at h1; cases h1
  | some i =>
    cases hj : Tryd.prog.info? 140 with
    | none => rw [hj] at h2; cases h2
    | some j =>
      rw [hi] at h1
      exact run_eql_iface_ptr_same w a Tryd.underlying28 Tryd.underlying124 hi (by simpa using h1) hj
theorem err_other (w : World) {a b : Addr} {ca cb : Array Value} {ta tb : TypeId} (hne : a ≠ b) (ha : w.heap[a.block]? = some (.cells ca ta (0, 0))) (hb : w.heap[b.block]? = some (.cells cb tb (0, 0))) :
    (binOp .eql 28 (.iface 124 (.pointer (some a))) (.iface 124 (.pointer (some b)))).run Tryd.prog w = .ok (.bool false) w := by
  have h1 := comp124
  have h2 := size140
  cases hi : Tryd.prog.info? 124 with
  | none => rw [hi] at h1; cases h1
  | some i =>
    cases hj : Tryd.prog.info? 140 with
    | none => rw [hj] at h2; cases h2
    | some j =>
      rw [hi] at h1
      rw [hj] at h2
      exact run_eql_iface_ptr_other w Tryd.underlying28 Tryd.underlying124 hi (by simpa using h1) hj (by simp at h2; omega) hne ha hb
theorem Errs.eq_other {w : World} {E : Nat → Addr} {ids : List Nat} (h : Errs w E ids) (g k : Nat) (hg : g ∈ ids) (hk : k ∈ ids) (hne : g ≠ k) :
    (binOp .eql 28 (.iface 124 (.pointer (some (E g)))) (.iface 124 (.pointer (some (E k))))).run Tryd.prog w = .ok (.bool false) w := by
  obtain ⟨ca, ta, ha⟩ := h.blk g hg
  obtain ⟨cb, tb, hb⟩ := h.blk k hk
  exact err_other w (h.inj g hg k hk hne) ha hb

/-- all the errors -/
def allErrs : List Nat := [0, 1, 2, 3, 4, 5, 6, 7, 8, 9, 10, 11, 12, 13, 14, 17, 18, 19, 20, 21, 22, 23, 24, 25]

theorem num_nil (w : World) : Calls Tryd.prog 26 #[.nilIface] w fun e w' => e = .returned (.int .i64 0) ∧ w = w' := by
  go_enter Tryd.func26, Tryd.ntmps26
  go_wp2
  go_ret
  exact ⟨rfl, rfl⟩

set_option maxHeartbeats 400000 in
theorem num_1 (w : World) (E : Nat → Addr) (h : Errs w E allErrs) : Calls Tryd.prog 26 #[.iface 124 (.pointer (some (E 1)))] w fun e w' => e = .returned (.int .i64 1) ∧ w = w' := by
  have c1 : w.cell? ⟨1, 0, none⟩ = some (.iface 124 (.pointer (some (E 1)))) := h.cell 1 (by decide)
  have e1 := err_same w (E 1)
  generalize E 1 = a1 at *
  clear h
  go_enter Tryd.func26, Tryd.ntmps26
  go_wp2
  go_ret
  exact ⟨rfl, rfl⟩

set_option maxHeartbeats 400000 in
theorem num_2 (w : World) (E : Nat → Addr) (h : Errs w E allErrs) : Calls Tryd.prog 26 #[.iface 124 (.pointer (some (E 2)))] w fun e w' => e = .returned (.int .i64 2) ∧ w = w' := by
  have c1 : w.cell? ⟨1, 0, none⟩ = some (.iface 124 (.pointer (some (E 1)))) := h.cell 1 (by decide)
  have e1 := h.eq_other 2 1 (by decide) (by decide) (by decide)
  have c2 : w.cell? ⟨2, 0, none⟩ = some (.iface 124 (.pointer (some (E 2)))) := h.cell 2 (by decide)
  have e2 := err_same w (E 2)
  generalize E 1 = a1 at c1 e1
  generalize E 2 = a2 at *
  clear h
  go_enter Tryd.func26, Tryd.ntmps26
  go_wp2
  go_ret
  exact ⟨rfl, rfl⟩

set_option maxHeartbeats 400000 in
theorem num_5 (w : World) (E : Nat → Addr) (h : Errs w E allErrs) : Calls Tryd.prog 26 #[.iface 124 (.pointer (some (E 5)))] w fun e w' => e = .returned (.int .i64 5) ∧ w = w' := by
  have c1 : w.cell? ⟨1, 0, none⟩ = some (.iface 124 (.pointer (some (E 1)))) := h.cell 1 (by decide)
  have e1 := h.eq_other 5 1 (by decide) (by decide) (by decide)
  have c2 : w.cell? ⟨2, 0, none⟩ = some (.iface 124 (.pointer (some (E 2)))) := h.cell 2 (by decide)
  have e2 := h.eq_other 5 2 (by decide) (by decide) (by decide)
  have c3 : w.cell? ⟨3, 0, none⟩ = some (.iface 124 (.pointer (some (E 3)))) := h.cell 3 (by decide)
  have e3 := h.eq_other 5 3 (by decide) (by decide) (by decide)
  have c4 : w.cell? ⟨4, 0, none⟩ = some (.iface 124 (.pointer (some (E 4)))) := h.cell 4 (by decide)
  have e4 := h.eq_other 5 4 (by decide) (by decide) (by decide)
  have c5 : w.cell? ⟨5, 0, none⟩ = some (.iface 124 (.pointer (some (E 5)))) := h.cell 5 (by decide)
  have e5 := err_same w (E 5)
  generalize E 1 = a1 at c1 e1
  generalize E 2 = a2 at c2 e2
  generalize E 3 = a3 at c3 e3
  generalize E 4 = a4 at c4 e4
  generalize E 5 = a5 at *
  clear h
  go_enter Tryd.func26, Tryd.ntmps26
  go_wp2
  go_ret
  exact ⟨rfl, rfl⟩

set_option maxHeartbeats 400000 in
theorem num_0 (w : World) (E : Nat → Addr) (h : Errs w E allErrs) : Calls Tryd.prog 26 #[.iface 124 (.pointer (some (E 0)))] w fun e w' => e = .returned (.int .i64 6) ∧ w = w' := by
  have c1 : w.cell? ⟨1, 0, none⟩ = some (.iface 124 (.pointer (some (E 1)))) := h.cell 1 (by decide)
  have e1 := h.eq_other 0 1 (by decide) (by decide) (by decide)
  have c2 : w.cell? ⟨2, 0, none⟩ = some (.iface 124 (.pointer (some (E 2)))) := h.cell 2 (by decide)
  have e2 := h.eq_other 0 2 (by decide) (by decide) (by decide)
  have c3 : w.cell? ⟨3, 0, none⟩ = some (.iface 124 (.pointer (some (E 3)))) := h.cell 3 (by decide)
  have e3 := h.eq_other 0 3 (by decide) (by decide) (by decide)
  have c4 : w.cell? ⟨4, 0, none⟩ = some (.iface 124 (.pointer (some (E 4)))) := h.cell 4 (by decide)
  have e4 := h.eq_other 0 4 (by decide) (by decide) (by decide)
  have c5 : w.cell? ⟨5, 0, none⟩ = some (.iface 124 (.pointer (some (E 5)))) := h.cell 5 (by decide)
  have e5 := h.eq_other 0 5 (by decide) (by decide) (by decide)
  have c0 : w.cell? ⟨0, 0, none⟩ = some (.iface 124 (.pointer (some (E 0)))) := h.cell 0 (by decide)
  have e0 := err_same w (E 0)
  generalize E 1 = a1 at c1 e1
  generalize E 2 = a2 at c2 e2
  generalize E 3 = a3 at c3 e3
  generalize E 4 = a4 at c4 e4
  generalize E 5 = a5 at c5 e5
  generalize E 0 = a0 at *
  clear h
  go_enter Tryd.func26, Tryd.ntmps26
  go_wp2
  go_ret
  exact ⟨rfl, rfl⟩

set_option maxHeartbeats 400000 in
theorem num_6 (w : World) (E : Nat → Addr) (h : Errs w E allErrs) : Calls Tryd.prog 26 #[.iface 124 (.pointer (some (E 6)))] w fun e w' => e = .returned (.int .i64 7) ∧ w = w' := by
  have c1 : w.cell? ⟨1, 0, none⟩ = some (.iface 124 (.pointer (some (E 1)))) := h.cell 1 (by decide)
  have e1 := h.eq_other 6 1 (by decide) (by decide) (by decide)
  have c2 : w.cell? ⟨2, 0, none⟩ = some (.iface 124 (.pointer (some (E 2)))) := h.cell 2 (by decide)
  have e2 := h.eq_other 6 2 (by decide) (by decide) (by decide)
  have c3 : w.cell? ⟨3, 0, none⟩ = some (.iface 124 (.pointer (some (E 3)))) := h.cell 3 (by decide)
  have e3 := h.eq_other 6 3 (by decide) (by decide) (by decide)
  have c4 : w.cell? ⟨4, 0, none⟩ = some (.iface 124 (.pointer (some (E 4)))) := h.cell 4 (by decide)
  have e4 := h.eq_other 6 4 (by decide) (by decide) (by decide)
  have c5 : w.cell? ⟨5, 0, none⟩ = some (.iface 124 (.pointer (some (E 5)))) := h.cell 5 (by decide)
  have e5 := h.eq_other 6 5 (by decide) (by decide) (by decide)
  have c0 : w.cell? ⟨0, 0, none⟩ = some (.iface 124 (.pointer (some (E 0)))) := h.cell 0 (by decide)
  have e0 := h.eq_other 6 0 (by decide) (by decide) (by decide)
  have c6 : w.cell? ⟨6, 0, none⟩ = some (.iface 124 (.pointer (some (E 6)))) := h.cell 6 (by decide)
  have e6 := err_same w (E 6)
  generalize E 1 = a1 at c1 e1
  generalize E 2 = a2 at c2 e2
  generalize E 3 = a3 at c3 e3
  generalize E 4 = a4 at c4 e4
  generalize E 5 = a5 at c5 e5
  generalize E 0 = a0 at c0 e0
  generalize E 6 = a6 at *
  clear h
  go_enter Tryd.func26, Tryd.ntmps26
  go_wp2
  go_ret
  exact ⟨rfl, rfl⟩
end Go.Proofs.YtgebekklkodpaaaDoor

/-! Lk: frame.look -/
namespace Go.Proofs.YtgebekklkodpaaaDoor
open Go.RowKit

def wordAt (b : List Nat) (i : Nat) : Nat := wordOf (b.getD i 0) (b.getD (i + 1) 0) (b.getD (i + 2) 0) (b.getD (i + 3) 0)
/-- what a block's bytes are: the error by its variable's number, or from, to -/
def dec (b : List Nat) : Nat ⊕ (Nat × Nat) :=
  match b with
  | [] => .inl 1
  | t :: r =>
    if t = 0 then .inl 0
    else if (Nm.num 10 0 r).2 ≠ 0 then .inl (Nm.num 10 0 r).2
    else if (t :: r).length < (Nm.num 10 0 r).1 + 5 + Nm.val (r.take (Nm.num 10 0 r).1) then .inl 1
    else if wordAt (t :: r) (1 + (Nm.num 10 0 r).1 + Nm.val (r.take (Nm.num 10 0 r).1)) ≠ sum ((t :: r).take (1 + (Nm.num 10 0 r).1 + Nm.val (r.take (Nm.num 10 0 r).1))) then .inl 6
    else .inr (1 + (Nm.num 10 0 r).1, 1 + (Nm.num 10 0 r).1 + Nm.val (r.take (Nm.num 10 0 r).1))

theorem dec_num {t n v : Nat} {r : List Nat} (ht : t ≠ 0) (hn : Nm.num 10 0 r = (n, 0)) (hv : Nm.val (r.take n) = v) :
    dec (t :: r) = if (t :: r).length < n + 5 + v then .inl 1 else if wordAt (t :: r) (1 + n + v) ≠ sum ((t :: r).take (1 + n + v)) then .inl 6 else .inr (1 + n, 1 + n + v) := by
  rw [dec, if_neg ht, hn]
  simp only
  rw [if_neg (by simp), hv]
theorem dec_err {t g : Nat} {r : List Nat} (ht : t ≠ 0) (hg : (Nm.num 10 0 r).2 = g) (h0 : g ≠ 0) : dec (t :: r) = .inl g := by
  rw [dec, if_neg ht, if_pos (by omega), hg]

theorem results_tmp4 {fn : Func} {t u v x : Tmp} (h : fn.results = #[.tmp t, .tmp u, .tmp v, .tmp x]) (tmps : Array Value) (P : Program) (w : World) :
    (results fn tmps).run P w = .ok (.tuple #[tmps.getD t undef, tmps.getD u undef, tmps.getD v undef, tmps.getD x undef]) w := by
  simp [results, h]
theorem Tryd.results67 : Tryd.f67.results = #[.tmp 2, .tmp 3, .tmp 4, .tmp 5] := rfl

/-- a part of a source -/
theorem src_part {w : World} {ad : Addr} {n cap : Nat} {bs : List Nat} (h : Src w (.slice (some ad) n cap) bs) (i j c : Nat) (hij : i ≤ j) (hj : j ≤ bs.length) (hc : j - i ≤ c) (hc2 : c ≤ 9223372036854775807) :
    Src w (.slice (some (ad.add i)) (j - i) c) ((bs.take j).drop i) := by
  have hl : ((bs.take j).drop i).length = j - i := by rw [List.length_drop, List.length_take]; omega
  refine ⟨fun x hx => h.1 x (List.mem_of_mem_take (List.mem_of_mem_drop hx)), .inr ⟨ad.add i, c, by rw [hl], by omega, hc2, fun k x hk => ?_⟩⟩
  rcases h with ⟨_, ⟨h1, _⟩ | ⟨ad', c', h1, _, _, hcell⟩⟩
  · simp at h1
  · simp only [Value.slice.injEq, Option.some.injEq] at h1
    obtain ⟨rfl, _, _⟩ := h1
    rw [Addr.add_add]
    refine hcell (i + k) x ?_
    rw [List.getElem?_drop, List.getElem?_take] at hk
    split at hk
    · exact hk
    · simp at hk

def errV (a : Addr) : Value := .iface 124 (.pointer (some a))
def LookOut (E : Nat → Addr) (b : List Nat) (e : Ending) : Prop :=
  match dec b with
  | .inl g => e = .returned (.tuple #[.int .i64 0, .int .i64 0, .int .i64 0, .iface 124 (.pointer (some (E g)))])
  | .inr (i, j) => e = .returned (.tuple #[.int .i64 (i : Nat), .int .i64 (j : Nat), .int .i64 ((j + 4 : Nat) : Int), .nilIface])

theorem look_nil (w : World) (E : Nat → Addr) (h1 : ErrAt w 1 (E 1)) (ao : Option Addr) (cap : Nat) :
    Calls Tryd.prog 67 #[.slice ao 0 cap] w fun e w' => LookOut E [] e ∧ Below w.heap.size w w' := by
  unfold ErrAt at h1
  go_enter Tryd.func67, Tryd.ntmps67
  go_wp2
  go_quiet (fail)
  go_wp2
  refine bodyPost_ret (results_tmp4 Tryd.results67 _ _ _) rfl ?_
  exact ⟨rfl, below_drewN (Below.refl _ _) _⟩

theorem look_zero (w : World) (E : Nat → Addr) (h0 : ErrAt w 0 (E 0)) (ad : Addr) (cap : Nat) (r : List Nat) (hl : r.length < 140737488355328) (hc : w.cell? ad = some (.int .u8 0)) :
    Calls Tryd.prog 67 #[.slice (some ad) (r.length + 1) cap] w fun e w' => LookOut E (0 :: r) e ∧ Below w.heap.size w w' := by
  unfold ErrAt at h0
  have hn : ((r.length : Int) + 1 == 0) = false := by simp; omega
  have hn2 : ((r.length : Int) + 1 = 0) = False := by simp; omega
  go_enter Tryd.func67, Tryd.ntmps67
  go_wp2
  go_quiet (fail)
  go_wp2
  refine bodyPost_ret (results_tmp4 Tryd.results67 _ _ _) rfl ?_
  exact ⟨rfl, below_drewN (Below.refl _ _) _⟩

set_option maxRecDepth 100000 in
theorem look_one (w : World) (E : Nat → Addr) (h1 : ErrAt w 1 (E 1)) (h2 : ErrAt w 2 (E 2)) (hg : 16 < w.heap.size) (ad : Addr) (t : Nat) (ht : t ≠ 0) (hc : w.cell? ad = some (.int .u8 t)) :
    Calls Tryd.prog 67 #[.slice (some ad) 1 1] w fun e w' => LookOut E [t] e ∧ Below w.heap.size w w' := by
  have ht0 : ((t : Int) == 0) = false := by simp; omega
  have HE1 := hide h1
  have HE2 := hide h2
  clear h1 h2
  go_enter Tryd.func67, Tryd.ntmps67
  go_wp2_with fail
  refine (new_reader w (.slice (some ad) 0 0) [] ⟨fun _ h => by simp at h, .inr ⟨ad, 0, rfl, by simp, by omega, fun k x h => by simp at h⟩⟩ (by simp)).mono ?_
  rintro e w1 ⟨p, bv, rfl, hp, hr, hs, hb⟩
  have HB := hide hb
  have hout := reader_uvarint w1 w.heap.size p bv [] hp hr hs (by simp) E (err_below HE1.out hb (by omega)) (err_below HE2.out hb (by omega)) (by omega)
  have HN := hide hout
  clear hr hs hb hout
  go_wp2_with fail
  refine HN.out.mono ?_
  rintro e w2 ⟨hout, hb, _⟩
  have HB2 := hide (HB.out.trans (hb.mono (Nat.le_refl _)))
  clear hb HN HB
  rcases hout with ⟨hz, _⟩ | ⟨_, rfl⟩ | ⟨hz, _⟩
  · simp [Nm.num] at hz
  · have hd : dec [t] = .inl 1 := dec_err ht rfl (by omega)
    have HD := hide hd
    clear hd
    go_wp2_with fail
    refine bodyPost_ret (results_tmp4 Tryd.results67 _ _ _) rfl ?_
    exact ⟨by rw [LookOut, HD.out]; rfl, HB2.out⟩
  · simp [Nm.num] at hz

set_option maxRecDepth 100000 in
set_option maxHeartbeats 4000000 in
theorem look_some (w : World) (Z : Zip w) (E : Nat → Addr) (h1 : ErrAt w 1 (E 1)) (h2 : ErrAt w 2 (E 2)) (h6 : ErrAt w 6 (E 6)) (hg : 16 < w.heap.size) (ad : Addr) (cap t : Nat) (r : List Nat)
    (hs : Src w (.slice (some ad) (r.length + 1) cap) (t :: r)) (ht : t ≠ 0) (hl : r.length < 140737488355328) (hc1 : cap ≠ 1) :
    Calls Tryd.prog 67 #[.slice (some ad) (r.length + 1) cap] w fun e w' => LookOut E (t :: r) e ∧ Below w.heap.size w w' := by
  have hn : ((r.length : Int) + 1 == 0) = false := by simp; omega
  have hn2 : ((r.length : Int) + 1 = 0) = False := by simp; omega
  obtain ⟨ad', e1, hc⟩ := src_cell hs (show (t :: r)[0]? = some t from rfl)
  obtain rfl := Option.some.inj e1
  rw [Addr.add_zero'] at hc
  have ht0 : ((t : Int) == 0) = false := by simp; omega
  have hcap : r.length + 1 ≤ cap ∧ cap ≤ 9223372036854775807 := by
    rcases hs.2 with ⟨h, _⟩ | ⟨ad', c', h, ha, hb, _⟩
    · simp at h
    · simp only [Value.slice.injEq] at h
      obtain ⟨_, _, rfl⟩ := h
      exact ⟨by simpa using ha, hb⟩
  have HS := hide hs
  have HZ := hide Z
  have HE1 := hide h1
  have HE2 := hide h2
  have HE6 := hide h6
  clear hs Z h1 h2 h6 e1
  go_enter Tryd.func67, Tryd.ntmps67
  go_upto_region 5 with (fail)
  go_cut [6] (fun s6 wx => ∃ p bv, s6 = .pointer (some ⟨p, 0, none⟩) ∧ w.heap.size ≤ p ∧ RdAt wx p 0 bv (r.take 10).length ∧ Src wx bv (r.take 10) ∧ Below w.heap.size w wx)
  case first =>
    go_wp2_with fail
    · have hsp : Src w (.slice (some (ad.add 1)) (11 - 1) (cap - 1)) (((t :: r).take 11).drop 1) := src_part HS.out 1 11 (cap - 1) (by omega) (by simp; omega) (by omega) (by omega)
      refine (new_reader w _ (r.take 10) hsp (by simp; omega)).mono ?_
      rintro e w1 ⟨p, bv, rfl, hp, hr, hs, hb⟩
      go_wp2_with fail
      go_meet
      exact ⟨p, bv, rfl, hp, hr, hs, hb⟩
    · have hle : r.length ≤ 10 := by omega
      have hsp : Src w (.slice (some (ad.add 1)) (r.length + 1 - 1) (cap - 1)) (((t :: r).take (r.length + 1)).drop 1) := src_part HS.out 1 (r.length + 1) (cap - 1) (by omega) (by simp) (by omega) (by omega)
      rw [show ((t :: r).take (r.length + 1)).drop 1 = r.take 10 by rw [List.take_succ_cons, List.drop_succ_cons, List.drop_zero, List.take_of_length_le (Nat.le_refl _), List.take_of_length_le hle]] at hsp
      refine (new_reader w _ (r.take 10) hsp (by simp; omega)).mono ?_
      rintro e w1 ⟨p, bv, rfl, hp, hr, hs, hb⟩
      go_wp2_with fail
      go_meet
      exact ⟨p, bv, rfl, hp, hr, hs, hb⟩
  case rest =>
    obtain ⟨p, bv, rfl, hp, hR, hS, hB⟩ := hcut
    have HB := hide hB
    have hnt := Nm.num_take r (i := 0) (f := 10) (by omega)
    have hout := reader_uvarint wc w.heap.size p bv (r.take 10) hp hR hS (by simp; omega) E (err_below HE1.out hB (by omega)) (err_below HE2.out hB (by omega)) (by omega)
    unfold NumOut at hout
    rw [hnt] at hout
    have HN := hide hout
    clear hnt hR hS hB hout
    go_wp2_with fail
    refine HN.out.mono ?_
    rintro e w2 ⟨hout, hb, hRd⟩
    have HB2 := hide (HB.out.trans (hb.mono (Nat.le_refl _)))
    have HRd := hide hRd
    have H256 := hide fun x hx => HS.out.1 x (List.mem_cons_of_mem _ hx)
    clear hb hRd HN HB
    rcases hout with ⟨hz, rfl⟩ | ⟨hz, rfl⟩ | ⟨hz, rfl⟩
    · obtain ⟨n, hn0⟩ : ∃ n, Nm.num 10 0 r = (n, 0) := ⟨(Nm.num 10 0 r).1, Prod.ext rfl hz⟩
      have hok := Nm.num_ok (by omega) hn0
      have hRD := HRd.out hz
      have hv := Nm.val_ok hn0
      rw [hn0] at hRD ⊢
      rw [show (r.take 10).take n = r.take n by rw [List.take_take, Nat.min_eq_left (by omega)]]
      obtain ⟨v, hvv⟩ : ∃ v, Nm.val (r.take n) = v := ⟨_, rfl⟩
      have HD := hide (dec_num ht hn0 hvv)
      simp only [hvv] at hv ⊢
      have hnl : n ≤ r.length := hok.2.2.1
      have HRD := hide hRD
      clear hRD hn0 hvv hz HRd hok
      have hw1 : IntKind.i64.wrap (1 + (n : Int)) = ((1 + n : Nat) : Int) := by rw [IntKind.wrap_i64]; omega
      have hw2 : IntKind.i64.wrap ((r.length : Int) + 1 - ((1 + n : Nat) : Int)) = ((r.length - n : Nat) : Int) := by rw [IntKind.wrap_i64]; omega
      go_wp2_with fail
      refine (at_any w2 p n _ bv HRD.out).mono ?_
      rintro e w3 ⟨rfl, rfl⟩
      go_wp2_with fail
      · have hE := err_below HE1.out HB2.out (by omega)
        unfold ErrAt at hE
        go_quiet (fail)
        go_wp2
        refine bodyPost_ret (results_tmp4 Tryd.results67 _ _ _) rfl ?_
        exact ⟨by rw [LookOut, HD.out, if_pos (by simp; omega)]; rfl, below_drewN HB2.out _⟩
      · have e : 1 + (n : Int) + (v : Int) = ((1 + n + v : Nat) : Int) := by omega
        rw [e]
        clear e
        have hm4 : 1 + n + v + 4 ≤ r.length + 1 := by omega
        have hi : 1 + n ≤ 1 + n + v := by omega
        have HD := hide (HD.out.trans (if_neg (by simp; omega)))
        generalize 1 + n + v = m at *
        have hsub := sum_lt (bs := (t :: r).take m) fun x hx => HS.out.1 x (List.mem_of_mem_take hx)
        have hS2 := src_keep HS.out HB2.out
        have hZ2 := zip_below HZ.out HB2.out hg
        have hsW : Src w2 (.slice (some (ad.add m)) (r.length + 1 - m) (cap - m)) (((t :: r).take (r.length + 1)).drop m) := src_part hS2 m (r.length + 1) (cap - m) (by omega) (by simp) (by omega) (by omega)
        have hsB : Src w2 (.slice (some (ad.add 0)) (m - 0) cap) (((t :: r).take m).drop 0) := src_part hS2 0 m cap (by omega) (by simp; omega) (by omega) (by omega)
        rw [List.take_of_length_le (show (t :: r).length ≤ r.length + 1 by simp)] at hsW
        rw [Addr.add_zero', List.drop_zero, Nat.sub_zero] at hsB
        have hget : ∀ k, k < 4 → ((t :: r).drop m)[k]? = some ((t :: r).getD (m + k) 0) := fun k hk => by
          rw [List.getElem?_drop, List.getD_eq_getElem?_getD, List.getElem?_eq_getElem (by simp; omega)]; rfl
        have HW := hide fun q => word_any (w2.drewN q) _ _ (src_drew hsW q) _ _ _ _ (hget 0 (by omega)) (hget 1 (by omega)) (hget 2 (by omega)) (hget 3 (by omega))
        have HU := hide fun q => sum_any (w2.drewN q) (zip_below hZ2 (below_drewN (Below.refl _ _) q) (Nat.lt_of_lt_of_le hg HB2.out.size)) _ _ (src_drew hsB q) (by simp; omega)
        have hww : wordOf ((t :: r).getD (m + 0) 0) ((t :: r).getD (m + 1) 0) ((t :: r).getD (m + 2) 0) ((t :: r).getD (m + 3) 0) = wordAt (t :: r) m := rfl
        rw [hww] at HW
        generalize wordAt (t :: r) m = W at HW HD
        generalize sum ((t :: r).take m) = U at HU HD hsub
        clear hget hsW hsB hS2 hZ2 hww
        have hcm : cap - m ≠ 0 := by omega
        have hmc : m ≤ cap := by omega
        by_cases hWU : W = U
        · go_quiet (first | (go_at_call 72; exact Calls.quiet_of (HW.out _)) | (go_at_call 28; exact Calls.quiet_of_same ((HU.out _).mono fun e w' h => ⟨h.1, h.2.symm⟩)))
          go_wp2_with fail
          refine bodyPost_ret (results_tmp4 Tryd.results67 _ _ _) rfl ?_
          have HD2 := HD.out.trans (if_neg (by simp [hWU]))
          exact ⟨by rw [LookOut, HD2]; rfl, below_drewN HB2.out _⟩
        · have e1 : ((W : Int) == (U : Int)) = false := by simp; omega
          have e2 : ((W : Int) = (U : Int)) = False := by simp; omega
          go_quiet (first | (go_at_call 72; exact Calls.quiet_of (HW.out _)) | (go_at_call 28; exact Calls.quiet_of_same ((HU.out _).mono fun e w' h => ⟨h.1, h.2.symm⟩)))
          have hE := err_below HE6.out HB2.out (by omega)
          unfold ErrAt at hE
          go_wp2_with fail
          go_quiet (fail)
          go_wp2
          refine bodyPost_ret (results_tmp4 Tryd.results67 _ _ _) rfl ?_
          have HD2 := HD.out.trans (if_pos hWU)
          exact ⟨by rw [LookOut, HD2]; rfl, below_drewN (below_drewN HB2.out _) _⟩
      · have hE := err_below HE1.out HB2.out (by omega)
        unfold ErrAt at hE
        go_quiet (fail)
        go_wp2
        refine bodyPost_ret (results_tmp4 Tryd.results67 _ _ _) rfl ?_
        exact ⟨by rw [LookOut, HD.out, if_pos (by simp; omega)]; rfl, below_drewN HB2.out _⟩
    · have hd : dec (t :: r) = .inl 1 := dec_err ht hz (by omega)
      have HD := hide hd
      clear hd
      go_wp2_with fail
      refine bodyPost_ret (results_tmp4 Tryd.results67 _ _ _) rfl ?_
      exact ⟨by rw [LookOut, HD.out]; rfl, HB2.out⟩
    · have hd : dec (t :: r) = .inl 2 := dec_err ht hz (by omega)
      have HD := hide hd
      clear hd
      go_wp2_with fail
      refine bodyPost_ret (results_tmp4 Tryd.results67 _ _ _) rfl ?_
      exact ⟨by rw [LookOut, HD.out]; rfl, HB2.out⟩
/-- any list -/
theorem look_any (w : World) (Z : Zip w) (E : Nat → Addr) (h0 : ErrAt w 0 (E 0)) (h1 : ErrAt w 1 (E 1)) (h2 : ErrAt w 2 (E 2)) (h6 : ErrAt w 6 (E 6)) (hg : 16 < w.heap.size) (v : Value) (bs : List Nat)
    (hs : Src w v bs) (hl : bs.length ≤ 140737488355328) : Calls Tryd.prog 67 #[v] w fun e w' => LookOut E bs e ∧ Below w.heap.size w w' := by
  obtain ⟨ao, cap, rfl⟩ := src_form hs
  cases bs with
  | nil => exact look_nil w E h1 ao cap
  | cons t r =>
    obtain ⟨ad, rfl, hc⟩ := src_cell hs (show (t :: r)[0]? = some t from rfl)
    rw [Addr.add_zero'] at hc
    have hl' : r.length < 140737488355328 := by simp only [List.length_cons] at hl; omega
    by_cases ht : t = 0
    · subst ht
      exact look_zero w E h0 ad cap r hl' hc
    · by_cases hc1 : cap = 1
      · subst hc1
        have hr : r = [] := by
          rcases hs.2 with ⟨h, _⟩ | ⟨ad', c', h, ha, hb, _⟩
          · simp at h
          · simp only [Value.slice.injEq] at h
            have h3 := h.2.2
            rw [← h3] at ha
            exact List.eq_nil_of_length_eq_zero (by simp only [List.length_cons] at ha; omega)
        subst hr
        exact look_one w E h1 h2 hg ad t ht hc
      · exact look_some w Z E h1 h2 h6 hg ad cap t r hs ht hl' hc1
end Go.Proofs.YtgebekklkodpaaaDoor

/-! RefEnc: the reference's uvarint, word, Encode -/
namespace Go.Proofs.YtgebekklkodpaaaDoor
open Go.RowKit

set_option maxRecDepth 100000 in
set_option maxHeartbeats 1000000 in
theorem ref_uvarint (w : World) (x : Nat) (hx : x < Uv.u64) :
    Calls Tryd.prog 63 #[.int .u64 x] w fun e w' => ∃ g cap, e = .returned (.slice (some ⟨g, 0, none⟩) (Uv.uv x).length cap) ∧ w'.ownsRow w.heap.size 5 1 (.slice (some ⟨g, 0, none⟩) (Uv.uv x).length cap) (Uv.uv x).length (u8s (Uv.uv x)) ∧ Below w.heap.size w w' := by
  obtain ⟨i0, hi, hz0, hz1, hz2⟩ := info_parts info5
  have HX := hide hx
  clear hx
  go_enter Tryd.func63, Tryd.ntmps63
  go_wp2
  go_loopw [0, 3] (fun c v wr => ∃ (f y : Nat) (pre : List Nat), y < 128 ^ (f + 1) ∧ y < Uv.u64 ∧ c = .int .u64 y ∧ Uv.uv x = pre ++ Uv.uvf f y ∧ wr.ownsRow w.heap.size 5 1 v pre.length (u8s pre) ∧ Below w.heap.size w wr) (fun c _ _ => (intOf c).toNat)
  case atStart => exact ⟨9, x, [], Uv.start_u64 HX.out, HX.out, rfl, rfl, World.ownsRow_nil _ _ _ _, Below.refl _ _⟩
  case round =>
    obtain ⟨f, y, pre, hy, hy64, rfl, huv, hv, hb⟩ := hrel
    have hpl : pre.length ≤ 9 := by have h1 := (Uv.uv_len x).1; rw [huv] at h1; have h2 := (Uv.uvf_len f y).2; simp at h1; omega
    have hsz := hb.size
    have HU := hide huv
    have HY64 := hide hy64
    clear huv hy64
    by_cases hge : 128 ≤ y
    · cases f with
      | zero => simp at hy; omega
      | succ f =>
        obtain ⟨m, hmm⟩ : ∃ m, m = y % 128 := ⟨_, rfl⟩
        have hm : m < 128 := by omega
        have e1 : (y : Int) % 128 = (m : Int) := by omega
        have HM := hide hmm
        have e2 : IntKind.u64.wrap ((y : Int) / 128) = (y : Int) / 128 := by
          have := HY64.out
          rw [Uv.u64_eq] at this
          rw [IntKind.wrap_u64]
          omega
        have hyd : y / 128 < 128 ^ (f + 1) := by
          rw [Nat.div_lt_iff_lt_mul (by omega)]
          rw [Nat.pow_succ] at hy
          exact hy
        have HY := hide hyd
        have HG := hide (Uv.uvf_great f y hge)
        clear hmm hy hyd
        go_wp2_with (at_builtin; refine wpList_append_own _ rfl (.tmp 6) (.tmp 11) 25 rfl w.heap.size 5 i0 (.int .u8 0) 1 1 Tryd.underlying25 hi hz0 hz1 hz2 rfl (by decide) _ _ _ rfl (hv.alloc _) ⟨wr.heap.size, 0, none⟩ 1 1 [.int .u8 ((m : Int) + 128)] rfl rfl ?c1 ?c2 ?c3 ?c4 ?c5 ?_)
        case c1 => exact one_new _ _ _
        case c2 => intro u hu; simp at hu; subst hu; rfl
        case c3 => simp [maxLen]; omega
        case c4 => simp; omega
        case c5 => simp; omega
        intro v' w1 hown hg _
        have hown' : w1.ownsRow w.heap.size 5 1 v' (pre ++ [m + 128]).length (u8s (pre ++ [m + 128])) := by
          rw [u8s_app, List.length_append]
          simpa [u8s] using hown
        have HO := hide hown'
        have HB := hide ((hb.alloc hsz _).grown hg (by simp; omega) (fun k hk => (hv.lt k hk).1))
        clear hown hown' hg
        go_wp2
        go_roundw
        case rel =>
          refine ⟨f, y / 128, pre ++ [m + 128], HY.out, Uv.half_u64 _ HY64.out, by simp, ?_, HO.out, HB.out⟩
          rw [HU.out, HG.out, HM.out, List.append_assoc]; rfl
        case measure => simp [intOf]; omega
    · have HS := hide (Uv.uvf_small f y (by omega))
      clear hy
      go_wp2_with (at_builtin; refine wpList_append_own _ rfl (.tmp 15) (.tmp 18) 25 rfl w.heap.size 5 i0 (.int .u8 0) 1 1 Tryd.underlying25 hi hz0 hz1 hz2 rfl (by decide) _ _ _ rfl (hv.alloc _) ⟨wr.heap.size, 0, none⟩ 1 1 [.int .u8 (y : Int)] rfl rfl ?d1 ?d2 ?d3 ?d4 ?d5 ?_)
      case d1 => exact one_new _ _ _
      case d2 => intro u hu; simp at hu; subst hu; rfl
      case d3 => simp [maxLen]; omega
      case d4 => simp; omega
      case d5 => simp; omega
      intro v' w1 hown hg _
      have hown' : w1.ownsRow w.heap.size 5 1 v' (Uv.uv x).length (u8s (Uv.uv x)) := by
        rw [HU.out, HS.out, u8s_app, List.length_append]
        simpa [u8s] using hown
      have HO := hide hown'
      have HB := hide ((hb.alloc hsz _).grown hg (by simp; omega) (fun k hk => (hv.lt k hk).1))
      obtain ⟨g, cap, rfl⟩ := Joins.ownsRow_form hown' (by have := (Uv.uv_len x).2; omega)
      clear hown hown' hg
      go_wp2
      go_ret
      exact ⟨g, cap, rfl, HO.out, HB.out⟩

theorem ref_word (w : World) (x : Nat) (hx : x < 4294967296) :
    Calls Tryd.prog 64 #[.int .u32 x] w fun e w' => e = .returned (.slice (some ⟨w.heap.size, 0, none⟩) 4 4) ∧ w' = w.alloc (.cells (u8s (Uv.word x)).toArray 5) := by
  go_enter Tryd.func64, Tryd.ntmps64
  go_wp2
  go_ret
  refine ⟨rfl, ?_⟩
  have h : x / 16777216 % 256 = x / 16777216 := by omega
  simp only [Uv.word, h]
  simp [u8s]

set_option maxRecDepth 100000 in
set_option maxHeartbeats 1000000 in
theorem ref_encode_some (w : World) (tag : Nat) (ht : tag < 256) (h0 : tag ≠ 0) (ad : Addr) (bcap : Nat) (body : List Nat) (hb256 : ∀ x ∈ body, x < 256) (hbn : ∀ (j : Nat) (u : Value), (u8s body)[j]? = some u → w.cell? (ad.add j) = some u) (hl : body.length ≤ 140737488355200) :
    Calls Tryd.prog 25 #[.int .u8 tag, .slice (some ad) body.length bcap] w fun e w' => ∃ g cap, e = .returned (.tuple #[.slice (some ⟨g, 0, none⟩) (enc tag body).length cap, .int .i64 0]) ∧
      w'.ownsRow w.heap.size 5 1 (.slice (some ⟨g, 0, none⟩) (enc tag body).length cap) (enc tag body).length (u8s (enc tag body)) ∧ Below w.heap.size w w' := by
  obtain ⟨i0, hi, hz0, hz1, hz2⟩ := info_parts info5
  have ht0 : ((tag : Int) == 0) = false := by simp; omega
  have hu : body.length < Uv.u64 := by rw [Uv.u64_eq]; omega
  have hh := encHead_lt ht hb256 hu
  have hhl := encHead_len tag body
  have huvl := (Uv.uv_len body.length).1
  have hsl := sum_lt hh
  have HH := hide hh
  have HHL := hide hhl
  have HU := hide hu
  have HS := hide hsl
  have HUL := hide huvl
  have HBN := hide hbn
  clear hbn
  clear hh hhl hu hsl h0 huvl
  go_enter Tryd.func25, Tryd.ntmps25
  go_wp2_with fail
  refine (ref_uvarint _ body.length HU.out).mono ?_
  rintro e w2 ⟨g2, cap2, rfl, hown2, hb2⟩
  have hv1 : (w.alloc (.cells #[.int .u8 tag] 5)).ownsRow w.heap.size 5 1 (.slice (some ⟨w.heap.size, 0, none⟩) 1 1) 1 (u8s [tag]) := World.ownsRow_lit (base := w.heap.size) (e := 5) (size := 1) w #[.int .u8 tag] 1 (Nat.le_refl _) (by decide) rfl
  have hv2 : w2.ownsRow w.heap.size 5 1 (.slice (some ⟨w.heap.size, 0, none⟩) 1 1) [tag].length (u8s [tag]) := hv1.kept (row := none) ⟨hb2.os, hb2.tape, hb2.output, hb2.size, fun k hk _ => hb2.block k hk⟩ (.inr (by simp [Value.ownBlock]))
  have hB2 : Below w.heap.size w w2 := ((Below.refl w.heap.size w).alloc (Nat.le_refl _) _).trans (hb2.mono (by simp))
  have hsz2 := hB2.size
  have HB2 := hide hB2
  have HO2 := hide hown2
  clear hv1 hb2 hown2 hB2
  go_wp2_with (at_builtin; refine wpList_append_own _ rfl (.tmp 11) (.tmp 15) 25 rfl w.heap.size 5 i0 (.int .u8 0) 1 1 Tryd.underlying25 hi hz0 hz1 hz2 rfl (by decide) _ _ _ rfl hv2 ⟨g2, 0, none⟩ (Uv.uv body.length).length cap2 (u8s (Uv.uv body.length)) rfl ?_ ?_ (u8s_one _) ?_ ?_ ?_ ?_)
  case refine_1 => simp [u8s_len]
  case refine_2 => exact HO2.out.cells rfl
  case refine_3 => have := HUL.out; simp [maxLen]; omega
  case refine_4 => have := HUL.out; simp; omega
  case refine_5 => exact hsz2
  intro v3 w3 hown3 hg3 hnil3
  have hO3 : w3.ownsRow w.heap.size 5 1 v3 ([tag] ++ Uv.uv body.length).length (u8s ([tag] ++ Uv.uv body.length)) := by
    rw [u8s_app, List.length_append]
    exact hown3
  have HO3 := hide hO3
  have HB3 := hide (HB2.out.grown hg3 hsz2 (fun k hk => (hv2.lt k hk).1))
  have hl3 : ([tag] ++ Uv.uv body.length).length + body.length ≤ 140737488355328 := by have := HUL.out; simp; omega
  have hp3 : 0 < ([tag] ++ Uv.uv body.length).length := by simp
  clear hown3 hg3 hnil3 hv2 hsz2
  generalize hcur : [tag] ++ Uv.uv body.length = cur at hO3 HO3 hl3 hp3
  have HCU := hide hcur
  have HL3 := hide hl3
  obtain ⟨g3, cap3, rfl⟩ := Joins.ownsRow_form hO3 hp3
  clear hcur hl3 hO3 hp3
  go_wp2_with (at_builtin; refine wpList_append_own _ rfl (.tmp 17) (.tmp 18) 25 rfl w.heap.size 5 i0 (.int .u8 0) 1 1 Tryd.underlying25 hi hz0 hz1 hz2 rfl (by decide) _ cur.length (u8s cur) rfl HO3.out ad body.length bcap (u8s body) rfl ?_ ?_ (u8s_one _) ?_ ?_ ?_ ?_)
  case refine_1 => simp [u8s_len]
  case refine_2 => exact fun j u hu => (HB3.out.cell (World.block_lt_of_cell? w _ (HBN.out j u hu))).trans (HBN.out j u hu)
  case refine_3 => have := HL3.out; simp [maxLen]; omega
  case refine_4 => have := HL3.out; omega
  case refine_5 => exact HB3.out.size
  intro v4 w4 hown4 hg4 hnil4
  have hb4 := HB3.out.grown hg4 HB3.out.size (fun k hk => (HO3.out.lt k hk).1)
  have hown4' : w4.ownsRow w.heap.size 5 1 v4 (encHead tag body).length (u8s (encHead tag body)) := by
    rw [show encHead tag body = ([tag] ++ Uv.uv body.length) ++ body from rfl, HCU.out, u8s_app, List.length_append]
    exact hown4
  clear hown4 hg4 hnil4
  have hln : 0 < (encHead tag body).length := by simp [encHead]
  have HS4 := hide (src_own hown4' HH.out)
  have HO4 := hide hown4'
  have HB4 := hide hb4
  obtain ⟨g4, cap4, hv4⟩ := Joins.ownsRow_form hown4' hln
  have HLN := hide hln
  clear hown4' hb4 hln
  generalize hhd : encHead tag body = hd at HS4 HO4 HHL HH HS HLN hv4
  have HHD := hide hhd
  have HE := hide (show enc tag body = hd ++ Uv.word (sum hd) by unfold enc; rw [hhd])
  clear hhd
  subst hv4
  go_wp2_with fail
  refine (ref_sum w4 _ hd HS4.out (by have := HHL.out; omega)).mono ?_
  rintro e w' ⟨rfl, rfl⟩
  go_wp2_with fail
  refine (ref_word w4 (sum hd) HS.out).mono ?_
  rintro e w' ⟨rfl, rfl⟩
  have hsz4 := HB4.out.size
  have hO5 := HO4.out.alloc (.cells (u8s (Uv.word (sum hd))).toArray 5)
  have HB5 := hide (HB4.out.alloc HB4.out.size (.cells (u8s (Uv.word (sum hd))).toArray 5))
  have HN5 := hide (show ∀ (j : Nat) (u : Value), (u8s (Uv.word (sum hd)))[j]? = some u → (w4.alloc (.cells (u8s (Uv.word (sum hd))).toArray 5)).cell? ((⟨w4.heap.size, 0, none⟩ : Addr).add j) = some u from fun j u hu => by
    rw [Addr.add_mid, World.cell?_alloc_new]; simpa using hu)
  have hwl : (u8s (Uv.word (sum hd))).length = 4 := rfl
  generalize hws : u8s (Uv.word (sum hd)) = ws at HB5 hO5 HN5 hwl
  have HWS := hide hws
  have h1w : ∀ u ∈ ws, u.oneCell' = true := by rw [← hws]; exact u8s_one _
  clear hws
  go_wp2_with (at_builtin; refine wpList_append_own _ rfl (.tmp 20) (.tmp 23) 25 rfl w.heap.size 5 i0 (.int .u8 0) 1 1 Tryd.underlying25 hi hz0 hz1 hz2 rfl (by decide) _ hd.length (u8s hd) rfl hO5 ⟨w4.heap.size, 0, none⟩ 4 4 ws rfl ?_ ?_ h1w ?_ ?_ ?_ ?_)
  case refine_1 => exact hwl
  case refine_2 => exact HN5.out
  case refine_3 => have := HHL.out; simp [maxLen] at *; omega
  case refine_4 => have := HHL.out; simp at *; omega
  case refine_5 => simp; omega
  intro v6 w6 hown6 hg6 hnil6
  have hB6 := HB5.out.grown hg6 (by simp; omega) (fun k hk => (hO5.lt k hk).1)
  have hown6' : w6.ownsRow w.heap.size 5 1 v6 (enc tag body).length (u8s (enc tag body)) := by
    rw [HE.out, u8s_app, HWS.out, List.length_append]
    exact hown6
  obtain ⟨g6, cap6, rfl⟩ := Joins.ownsRow_form hown6' (by rw [HE.out]; simp [Uv.word])
  have HO6 := hide hown6'
  have HB6 := hide hB6
  clear hown6 hg6 hnil6 hown6' hB6 hO5
  go_wp2
  go_ret2
  exact ⟨g6, cap6, rfl, HO6.out, HB6.out⟩

set_option maxRecDepth 100000 in
set_option maxHeartbeats 1000000 in
theorem ref_encode_none (w : World) (tag : Nat) (ht : tag < 256) (h0 : tag ≠ 0) :
    Calls Tryd.prog 25 #[.int .u8 tag, .slice none 0 0] w fun e w' => ∃ g cap, e = .returned (.tuple #[.slice (some ⟨g, 0, none⟩) (enc tag []).length cap, .int .i64 0]) ∧
      w'.ownsRow w.heap.size 5 1 (.slice (some ⟨g, 0, none⟩) (enc tag []).length cap) (enc tag []).length (u8s (enc tag [])) ∧ Below w.heap.size w w' := by
  obtain ⟨i0, hi, hz0, hz1, hz2⟩ := info_parts info5
  have ht0 : ((tag : Int) == 0) = false := by simp; omega
  have hu : 0 < Uv.u64 := by rw [Uv.u64_eq]; omega
  have hh := encHead_lt ht (body := []) (by simp) hu
  have hhl := encHead_len tag []
  have huvl := (Uv.uv_len 0).1
  have hsl := sum_lt hh
  have HH := hide hh
  have HHL := hide hhl
  have HU := hide hu
  have HS := hide hsl
  have HUL := hide huvl
  clear hh hhl hu hsl h0 huvl
  go_enter Tryd.func25, Tryd.ntmps25
  go_wp2_with fail
  refine (ref_uvarint _ 0 HU.out).mono ?_
  rintro e w2 ⟨g2, cap2, rfl, hown2, hb2⟩
  have hv1 : (w.alloc (.cells #[.int .u8 tag] 5)).ownsRow w.heap.size 5 1 (.slice (some ⟨w.heap.size, 0, none⟩) 1 1) 1 (u8s [tag]) := World.ownsRow_lit (base := w.heap.size) (e := 5) (size := 1) w #[.int .u8 tag] 1 (Nat.le_refl _) (by decide) rfl
  have hv2 : w2.ownsRow w.heap.size 5 1 (.slice (some ⟨w.heap.size, 0, none⟩) 1 1) [tag].length (u8s [tag]) := hv1.kept (row := none) ⟨hb2.os, hb2.tape, hb2.output, hb2.size, fun k hk _ => hb2.block k hk⟩ (.inr (by simp [Value.ownBlock]))
  have hB2 : Below w.heap.size w w2 := ((Below.refl w.heap.size w).alloc (Nat.le_refl _) _).trans (hb2.mono (by simp))
  have hsz2 := hB2.size
  have HB2 := hide hB2
  have HO2 := hide hown2
  clear hv1 hb2 hown2 hB2
  go_wp2_with (at_builtin; refine wpList_append_own _ rfl (.tmp 11) (.tmp 15) 25 rfl w.heap.size 5 i0 (.int .u8 0) 1 1 Tryd.underlying25 hi hz0 hz1 hz2 rfl (by decide) _ _ _ rfl hv2 ⟨g2, 0, none⟩ (Uv.uv 0).length cap2 (u8s (Uv.uv 0)) rfl ?_ ?_ (u8s_one _) ?_ ?_ ?_ ?_)
  case refine_1 => simp [u8s_len]
  case refine_2 => exact HO2.out.cells rfl
  case refine_3 => have := HUL.out; simp [maxLen]; omega
  case refine_4 => have := HUL.out; simp; omega
  case refine_5 => exact hsz2
  intro v3 w3 hown3 hg3 hnil3
  have hO3 : w3.ownsRow w.heap.size 5 1 v3 ([tag] ++ Uv.uv 0).length (u8s ([tag] ++ Uv.uv 0)) := by
    rw [u8s_app, List.length_append]
    exact hown3
  have HO3 := hide hO3
  have HB3 := hide (HB2.out.grown hg3 hsz2 (fun k hk => (hv2.lt k hk).1))
  have hl3 : ([tag] ++ Uv.uv 0).length + 0 ≤ 140737488355328 := by have := HUL.out; simp; omega
  have hp3 : 0 < ([tag] ++ Uv.uv 0).length := by simp
  clear hown3 hg3 hnil3 hv2 hsz2
  generalize hcur : [tag] ++ Uv.uv 0 = cur at hO3 HO3 hl3 hp3
  have HCU := hide hcur
  have HL3 := hide hl3
  obtain ⟨g3, cap3, rfl⟩ := Joins.ownsRow_form hO3 hp3
  clear hcur hl3 hO3 hp3
  go_wp2_with (at_builtin; refine wpList_append_own_none rfl (.tmp 17) (.tmp 18) 25 rfl w.heap.size 5 i0 1 Tryd.underlying25 hi _ cur.length (u8s cur) rfl HO3.out rfl ?_)
  have hec : encHead tag [] = cur := (show encHead tag [] = [tag] ++ Uv.uv 0 by simp [encHead]).trans HCU.out
  have HHD := hide hec
  have HE := hide (show enc tag [] = cur ++ Uv.word (sum cur) by unfold enc; rw [hec])
  rw [hec] at HHL HH HS
  have HS4 := hide (src_own HO3.out HH.out)
  clear hec
  go_wp2_with fail
  refine (ref_sum w3 _ cur HS4.out (by have := HHL.out; simp at this; omega)).mono ?_
  rintro e w' ⟨rfl, rfl⟩
  go_wp2_with fail
  refine (ref_word w3 (sum cur) HS.out).mono ?_
  rintro e w' ⟨rfl, rfl⟩
  have hsz4 := HB3.out.size
  have hO5 := HO3.out.alloc (.cells (u8s (Uv.word (sum cur))).toArray 5)
  have HB5 := hide (HB3.out.alloc HB3.out.size (.cells (u8s (Uv.word (sum cur))).toArray 5))
  have HN5 := hide (show ∀ (j : Nat) (u : Value), (u8s (Uv.word (sum cur)))[j]? = some u → (w3.alloc (.cells (u8s (Uv.word (sum cur))).toArray 5)).cell? ((⟨w3.heap.size, 0, none⟩ : Addr).add j) = some u from fun j u hu => by
    rw [Addr.add_mid, World.cell?_alloc_new]; simpa using hu)
  have hwl : (u8s (Uv.word (sum cur))).length = 4 := rfl
  generalize hws : u8s (Uv.word (sum cur)) = ws at HB5 hO5 HN5 hwl
  have HWS := hide hws
  have h1w : ∀ u ∈ ws, u.oneCell' = true := by rw [← hws]; exact u8s_one _
  clear hws
  go_wp2_with (at_builtin; refine wpList_append_own _ rfl (.tmp 20) (.tmp 23) 25 rfl w.heap.size 5 i0 (.int .u8 0) 1 1 Tryd.underlying25 hi hz0 hz1 hz2 rfl (by decide) _ cur.length (u8s cur) rfl hO5 ⟨w3.heap.size, 0, none⟩ 4 4 ws rfl ?_ ?_ h1w ?_ ?_ ?_ ?_)
  case refine_1 => exact hwl
  case refine_2 => exact HN5.out
  case refine_3 => have := HHL.out; simp [maxLen] at *; omega
  case refine_4 => have := HHL.out; simp at *; omega
  case refine_5 => simp; omega
  intro v6 w6 hown6 hg6 hnil6
  have hB6 := HB5.out.grown hg6 (by simp; omega) (fun k hk => (hO5.lt k hk).1)
  have hown6' : w6.ownsRow w.heap.size 5 1 v6 (enc tag []).length (u8s (enc tag [])) := by
    rw [HE.out, u8s_app, HWS.out, List.length_append]
    exact hown6
  obtain ⟨g6, cap6, rfl⟩ := Joins.ownsRow_form hown6' (by rw [HE.out]; simp [Uv.word])
  have HO6 := hide hown6'
  have HB6 := hide hB6
  clear hown6 hg6 hnil6 hown6' hB6 hO5
  go_wp2
  go_ret2
  exact ⟨g6, cap6, rfl, HO6.out, HB6.out⟩

theorem ref_encode_pos (w : World) (tag : Nat) (ht : tag < 256) (h0 : tag ≠ 0) (v : Value) (body : List Nat) (hv : Src w v body) (hl : body.length ≤ 140737488355200) :
    Calls Tryd.prog 25 #[.int .u8 tag, v] w fun e w' => ∃ g cap, e = .returned (.tuple #[.slice (some ⟨g, 0, none⟩) (enc tag body).length cap, .int .i64 0]) ∧
      w'.ownsRow w.heap.size 5 1 (.slice (some ⟨g, 0, none⟩) (enc tag body).length cap) (enc tag body).length (u8s (enc tag body)) ∧ Below w.heap.size w w' := by
  rcases hv with ⟨h1, ⟨rfl, rfl⟩ | ⟨ad, cap, rfl, _, _, hc⟩⟩
  · exact ref_encode_none w tag ht h0
  · exact ref_encode_some w tag ht h0 ad cap body h1 (src_news hc) hl
theorem ref_encode_zero (w : World) (v : Value) : Calls Tryd.prog 25 #[.int .u8 0, v] w fun e w' => e = .returned (.tuple #[.slice none 0 0, .int .i64 6]) ∧ w = w' := by
  go_enter Tryd.func25, Tryd.ntmps25
  go_wp2
  go_ret2
  exact ⟨rfl, rfl⟩
end Go.Proofs.YtgebekklkodpaaaDoor

/-! Lives: lives: a fixed fact -/
namespace Go.Proofs.YtgebekklkodpaaaDoor
open Go.RowKit

theorem enc_a_len : (enc 1 [97]).length = 7 := by decide +kernel
theorem enc_a_2 : (u8s (enc 1 [97])).toArray[2]? = some (.int .u8 97) := rfl
def nines : List Nat := [49, 50, 51, 52, 53, 54, 55, 56, 57]
theorem sum_nines : sum nines = 3421780262 := by decide +kernel

theorem encode_a (w : World) (Z : Zip w) (hg : 16 < w.heap.size) (b : Nat) (hc : w.cell? ⟨b, 0, none⟩ = some (.int .u8 97)) :
    Calls Tryd.prog 24 #[.int .u8 1, .slice (some ⟨b, 0, none⟩) 1 1] w fun e w' => ∃ g, e = .returned (.tuple #[.slice (some ⟨g, 0, none⟩) 7 7, .nilIface]) ∧ w.heap.size ≤ g ∧
      w'.cell? ⟨g, 2, none⟩ = some (.int .u8 97) ∧ Below w.heap.size w w' := by
  have h : Calls Tryd.prog 24 #[.int .u8 1, .slice (some ⟨b, 0, none⟩) 1 1] w _ := encode_pos w Z hg 1 (by omega) (by omega) _ [97] ⟨by simp, .inr ⟨⟨b, 0, none⟩, 1, rfl, by simp, by omega, fun k x hk => by
    match k, hk with
    | 0, hk => simp at hk; subst hk; simpa [Addr.add] using hc⟩⟩ (by simp)
  rw [enc_a_len] at h
  refine h.mono fun e w' ⟨g, he, h1, h2, h3⟩ => ⟨g, he, h1, ?_, h3⟩
  rw [cell_at h2, enc_a_2]
theorem sum_9 (w : World) (Z : Zip w) (b : Nat) (hh : w.heap[b]? = some (.cells #[.int .u8 49, .int .u8 50, .int .u8 51, .int .u8 52, .int .u8 53, .int .u8 54, .int .u8 55, .int .u8 56, .int .u8 57] 5 (9, 10))) :
    Calls Tryd.prog 28 #[.slice (some ⟨b, 0, none⟩) 9 9] w fun e w' => e = .returned (.int .u32 3421780262) ∧ w = w' := by
  have h : Calls Tryd.prog 28 #[.slice (some ⟨b, 0, none⟩) 9 9] w _ := sum_any w Z _ nines (src_block (bs := nines) hh (by decide) (by decide)) (by decide)
  rw [sum_nines] at h
  exact h

set_option maxRecDepth 100000 in
set_option maxHeartbeats 1000000 in
theorem lives_any (w : World) (Z : Zip w) (hg : 16 < w.heap.size) : Calls Tryd.prog 23 #[] w fun e w' => e = .returned (.bool true) ∧ Below w.heap.size w w' := by
  have HZ := hide Z
  clear Z
  have kc := fun (w : World) (C : Array Value) (n c : Nat) => Lib.run_convert_bytes_const (P := Tryd.prog) w 25 5 C n c Tryd.underlying25 Tryd.underlying5
  go_enter Tryd.func23, Tryd.ntmps23
  go_wp2_with fail
  have hb0 := (Below.refl w.heap.size w).alloc (Nat.le_refl _) (.cells #[.int .u8 97] 5 (1, 2))
  refine (encode_a (w.alloc (.cells #[.int .u8 97] 5 (1, 2))) (zip_below HZ.out hb0 hg) (by simp; omega) _ (by rw [World.cell?_alloc_mark]; rfl)).mono ?_
  rintro e w1 ⟨g, rfl, hge, hc, hb⟩
  have hB1 := hb0.trans (hb.mono (by simp))
  have hs1 := hB1.size
  have HB1 := hide hB1
  clear hb hB1 hb0
  simp only [World.size_alloc] at hge
  have hcA := fun o => (World.cell?_alloc_lt w1 o _ (World.block_lt_of_cell? w1 _ hc)).trans hc
  go_wp2_with fail
  refine (sum_9 (w1.alloc (.cells #[.int .u8 49, .int .u8 50, .int .u8 51, .int .u8 52, .int .u8 53, .int .u8 54, .int .u8 55, .int .u8 56, .int .u8 57] 5 (9, 10))) (zip_below HZ.out (HB1.out.alloc hs1 _) hg) _ (heap_new rfl _)).mono ?_
  rintro e w' ⟨rfl, rfl⟩
  go_wp2
  go_ret
  exact ⟨rfl, HB1.out.alloc hs1 _⟩
end Go.Proofs.YtgebekklkodpaaaDoor

/-! Tw: linear.twice -/
namespace Go.Proofs.YtgebekklkodpaaaDoor
open Go.RowKit

theorem size87 : (Tryd.prog.info? 87).map (·.size) = some 32 := by kernel_rfl

set_option maxRecDepth 100000 in
set_option maxHeartbeats 800000 in
theorem twice_any (w : World) (L : Nat → Nat) (hM : Map32 L) :
    Calls Tryd.prog 53 #[.agg (cols L).toArray] w fun e w' => e = .returned (.agg (cols fun a => L (L a)).toArray) ∧ Below w.heap.size w w' := by
  have HM := hide hM
  clear hM
  have hu := Tryd.underlying87
  have hi87 : (Tryd.prog.info? 87).map (·.size) = some (cols L).length := by rw [size87, cols_len]
  have hcl := cols_len L
  have h1c : ∀ v ∈ cols L, v.oneCell' = true := part_one _ _
  go_enter Tryd.func53, Tryd.ntmps53
  go_wp2
  go_loopw [5] (fun c wr => ∃ i : Nat, i ≤ 32 ∧ c = .int .i64 i ∧ wr.heap[w.heap.size]? = some (.cells (cols L).toArray 87 (0, 0)) ∧ (∃ C : Array Value, C.size = 32 ∧ wr.heap[w.heap.size + 1]? = some (.cells C 87 (0, 0))) ∧
      wr.heap[w.heap.size + 1 + 1]? = some (.cells (part (fun i => L (L (2 ^ i))) i).toArray 87 (0, 0)) ∧ Below w.heap.size w wr) (fun c _ => 32 - (intOf c).toNat)
  case atStart =>
    refine ⟨0, by omega, rfl, heap_old (heap_old (heap_alloc_new w _) _) _, ⟨_, ?_, heap_old (heap_new (by simp) _) _⟩, heap_new (by simp) _, (((Below.refl _ _).alloc (Nat.le_refl _) _).alloc (by simp) _).alloc (by simp; omega) _⟩
    rfl
  case round =>
    obtain ⟨i, hi, rfl, hA, ⟨C, hC, hR⟩, hO, hB⟩ := hrel
    by_cases hlt : i < 32
    · have hcm := (cell_at hA i).trans (cols_cell L i hlt)
      have hco := (cell_at hO i).trans (part_cell _ _ _ hlt)
      have hfo := free_at hO i
      have hra := range_at hA
      have lr : L (2 ^ i) < 4294967296 := HM.out.lt _ (Nat.pow_lt_pow_right (a := 2) (m := i) (n := 32) (by omega) hlt)
      have hne : w.heap.size + 1 + 1 ≠ wr.heap.size := by have := heap_lt hO; omega
      have hcoA : ∀ o, (wr.alloc o).cell? ⟨w.heap.size + 1 + 1, i, none⟩ = some (.int .u32 (if i < i then L (L (2 ^ i)) else 0 : Nat)) := fun o => (cell_at (heap_old hO o) i).trans (part_cell _ _ _ hlt)
      have hfoA : ∀ o, (wr.alloc o).frozen? ⟨w.heap.size + 1 + 1, i, none⟩ = false := fun o => free_at (heap_old hO o) i
      rw [if_neg (by omega)] at hco hcoA
      have HA := hide hA
      have HR := hide hR
      have HO := hide hO
      clear hA hR hO
      generalize hq : L (2 ^ i) = q at hcm lr
      have HQ := hide hq
      clear hq
      have i32 : (i : Int) < 32 := by omega
      go_wp2_with fail
      go_region_held3 (fun w' => w'.rangeAt w.heap.size 0 (cols L) ∧ w'.cell? ⟨w.heap.size, i, none⟩ = some (.int .u32 q)) (first | exact ⟨hra, hcm⟩ | exact ⟨World.rangeAt_alloc hra _, by simp [*, World.cell?_alloc_some]⟩ | exact ⟨range_far (World.rangeAt_alloc hra _) (by simp; omega) _, (World.cell?_setCell_far _ _ _ _ (by simp; omega)).trans (by simp [*, World.cell?_alloc_some])⟩)
        (first | (go_at_call 52; refine (of_any _ L HM.out q lr).mono ?_; rintro e w' ⟨rfl, rfl⟩))
      go_wp2
      go_roundw
      case rel =>
        have hA := HA.out
        have hlz := heap_lt HO.out
        refine ⟨i + 1, by omega, by go_num, ?_, ⟨C, hC, ?_⟩, ?_, ?_⟩
        · rw [heap_drew]; exact heap_else (heap_old hA _) (by omega) _
        · rw [heap_drew]; exact heap_else (heap_old HR.out _) (by omega) _
        · rw [heap_drew]
          have h := part_set (fun i => L (L (2 ^ i))) i
          rw [← h]
          have hq := HQ.out
          rw [hq]
          exact heap_set (heap_old HO.out _) _
        · exact (below_set (hB.alloc hB.size _) (by omega) _).drew
      case measure => simp [intOf]; omega
    · obtain rfl : i = 32 := by omega
      have hO2 : wr.heap[w.heap.size + 1 + 1]? = some (.cells (cols (fun a => L (L a))).toArray 87 (0, 0)) := hO
      have hth : wr.there (w.heap.size + 1) 0 32 := fun j hj => ⟨by rw [cell_at hR]; simp [hC, hj], free_at hR _⟩
      have hi2 : (Tryd.prog.info? 87).map (·.size) = some (cols (fun a => L (L a))).length := by rw [size87, cols_len]
      have HA := hide hA
      have HR := hide hR
      have HO := hide hO
      have HO2 := hide hO2
      clear hA hR hO hO2
      go_wp2_with (first
        | (refine wpList_load_mid rfl 87 (.tmp 3) rfl (w.heap.size + 1 + 1) 0 rfl (cols fun a => L (L a)) _ (range_at HO2.out) hu rfl hi2 ?_)
        | (refine wpList_store_mid rfl 87 (.tmp 2) (.tmp 16) rfl (w.heap.size + 1) 0 (cols fun a => L (L a)).toArray rfl rfl (by simpa [cols_len] using hth) hi2 (all_oneCell_toArray (part_one _ _)) ?_))
      have hR' := heap_setCells HR.out (cols fun a => L (L a)) (by rw [cols_len, hC])
      refine bodyPost_ret (results_cell_row rfl _ _ (w.heap.size + 1) _ _ _ _ rfl hR' hu rfl ?_) rfl ⟨rfl, below_setCells (by omega) _ _ hB⟩
      rw [hi2]; simp
end Go.Proofs.YtgebekklkodpaaaDoor

/-! Join: frame.Join -/
namespace Go.Proofs.YtgebekklkodpaaaDoor
open Go.RowKit

theorem i64_and1 (n : Int) : bits .and .i64 n 1 = n % 2 := by
  have h1 : (BitVec.ofInt 64 1).toNat = 2 ^ 1 - 1 := by decide
  have key : (BitVec.ofInt 64 n &&& BitVec.ofInt 64 1).toNat = (n % ((2 ^ 64 : Nat) : Int)).toNat % 2 ^ 1 := by
    rw [BitVec.toNat_and, BitVec.toNat_ofInt, h1, Nat.and_two_pow_sub_one_eq_mod]
  show IntKind.i64.wrap ((BitVec.ofInt 64 n &&& BitVec.ofInt 64 1).toNat : Nat) = n % 2
  rw [key, IntKind.wrap_i64]
  omega

theorem roll_zero (w : World) (Z : Zip w) (r : Nat) (hr : r < 4294967296) (g cap : Nat) (hc : w.cell? ⟨g, 0, none⟩ = some (.int .u8 0)) :
    Calls Tryd.prog 51 #[.int .u32 r, .slice (some ⟨g, 0, none⟩) 1 cap] w fun e w' => e = .returned (.int .u32 (Crc.step8 Crc.polyZip r : Nat)) ∧ w = w' := by
  have h := roll_any w Z r hr (some ⟨g, 0, none⟩) cap [0] ⟨by simp, .inr ⟨g, 0, rfl, fun k x hk => by
    match k, hk with
    | 0, hk => simp at hk; subst hk; simpa using hc⟩⟩ (by simp)
  have e : Crc.run Crc.polyZip r [0] = Crc.step8 Crc.polyZip r := by simp [Crc.run, Crc.byte]
  rw [e] at h
  exact h
theorem pow_int (i : Nat) (hlt : i < 32) : ∃ q : Nat, q = 2 ^ i ∧ (2 : Int) ^ i % 4294967296 = (q : Int) ∧ q < 4294967296 := by
  have h2 : 2 ^ i < 2 ^ 32 := Nat.pow_lt_pow_right (a := 2) (by omega) hlt
  have h3 : (2 : Int) ^ i = ((2 ^ i : Nat) : Int) := by simp
  refine ⟨2 ^ i, rfl, ?_, h2⟩
  rw [h3]
  generalize 2 ^ i = q at *
  omega

/-- some bytes of 0, as a map -/
theorem map_zeros (n : Nat) : Map32 (Crc.zeros Crc.polyZip n) := ⟨Crc.lin_zeros _ _, fun _ h => Crc.zeros_lt n (by decide) h⟩
theorem zeros_one : Crc.step8 Crc.polyZip = Crc.zeros Crc.polyZip (2 ^ 0) := by funext a; simp [Crc.zeros]
theorem zeros_twice (j : Nat) : (fun a => Crc.zeros Crc.polyZip (2 ^ j) (Crc.zeros Crc.polyZip (2 ^ j) a)) = Crc.zeros Crc.polyZip (2 ^ (j + 1)) := by
  funext a
  rw [← Crc.zeros_add]
  congr 1
  rw [Nat.pow_succ]; omega
theorem zeros_half (m j c : Nat) (h : m % 2 = 1) : Crc.zeros Crc.polyZip (m * 2 ^ j) c = Crc.zeros Crc.polyZip (m / 2 * 2 ^ (j + 1)) (Crc.zeros Crc.polyZip (2 ^ j) c) := by
  rw [← Crc.zeros_add]
  congr 1
  have h2 : m = 2 * (m / 2) + 1 := by omega
  generalize m / 2 = k at *
  subst h2
  rw [Nat.pow_succ, Nat.add_mul, Nat.one_mul, Nat.add_comm, Nat.mul_comm 2 k, Nat.mul_assoc, Nat.mul_comm 2 (2 ^ j)]
theorem zeros_even (m j c : Nat) (h : m % 2 = 0) : Crc.zeros Crc.polyZip (m * 2 ^ j) c = Crc.zeros Crc.polyZip (m / 2 * 2 ^ (j + 1)) c := by
  congr 1
  have h2 : m = 2 * (m / 2) := by omega
  generalize m / 2 = k at *
  subst h2
  rw [Nat.pow_succ, Nat.mul_comm 2 k, Nat.mul_assoc, Nat.mul_comm 2 (2 ^ j)]

theorem there_cols {w : World} {g : Nat} {L M : Nat → Nat} (h : w.heap[g]? = some (.cells (cols L).toArray 87 (0, 0))) : w.there g 0 (cols M).toArray.size := by
  have := there_at h
  simpa [cols_len] using this
theorem twice_zeros (w : World) (j : Nat) :
    Calls Tryd.prog 53 #[.agg (cols (Crc.zeros Crc.polyZip (2 ^ j))).toArray] w fun e w' => e = .returned (.agg (cols (Crc.zeros Crc.polyZip (2 ^ (j + 1)))).toArray) ∧ Below w.heap.size w w' := by
  have h := twice_any w _ (map_zeros (2 ^ j))
  rw [zeros_twice] at h
  exact h

set_option maxRecDepth 100000 in
set_option maxHeartbeats 1000000 in
theorem join_any (w : World) (Z : Zip w) (a b : Nat) (n : Int) (ha : a < 4294967296) (hb : b < 4294967296) (hn : n ≤ 9223372036854775807) (hg : 16 < w.heap.size) :
    Calls Tryd.prog 21 #[.int .u32 a, .int .u32 b, .int .i64 n] w fun e w' => e = .returned (.int .u32 (Crc.zeros Crc.polyZip n.toNat a ^^^ b : Nat)) ∧ Below w.heap.size w w' := by
  have hu := Tryd.underlying87
  go_enter Tryd.func21, Tryd.ntmps21
  go_wp2
  go_loopw [9] (fun c wr => ∃ i : Nat, i ≤ 32 ∧ c = .int .i64 i ∧ wr.heap[w.heap.size]? = some (.cells (part (fun i => Crc.step8 Crc.polyZip (2 ^ i)) i).toArray 87 (0, 0)) ∧ Below w.heap.size w wr) (fun c _ => 32 - (intOf c).toNat)
  case atStart =>
    refine ⟨0, by omega, rfl, ?_, (Below.refl _ _).alloc (Nat.le_refl _) _⟩
    rw [part_zero]
    exact heap_alloc_new w _
  case round =>
    obtain ⟨i, hi, rfl, hA, hB⟩ := hrel
    have hsz := hB.size
    have hlz := heap_lt hA
    by_cases hlt : i < 32
    · have hcell' := fun o => (cell_at (heap_old hA o) i).trans (part_cell _ _ _ hlt)
      have hfree' := fun o => free_at (heap_old hA o) i
      obtain ⟨q, hq1, hq2, hq3⟩ := pow_int i hlt
      have HQ := hide hq1
      have HA := hide hA
      clear hq1 hA
      have hz : (wr.alloc (.cells #[.int .u8 0] 5)).cell? ⟨wr.heap.size, 0, none⟩ = some (.int .u8 0) := by rw [World.cell?_alloc_new]; rfl
      have Z1 : Zip (wr.alloc (.cells #[.int .u8 0] 5)) := fun k hk => (((hB.alloc hsz _).cell (p := ⟨16, k, none⟩) hg).trans (Z k hk))
      go_wp2_with (go_at_call 51; refine (roll_zero _ Z1 q hq3 _ _ hz).mono ?_; rintro e w' ⟨rfl, rfl⟩)
      go_roundw
      case rel =>
        refine ⟨i + 1, by omega, by go_num, ?_, ?_⟩
        · rw [← part_set, HQ.out]
          exact heap_old (heap_set HA.out _) _
        · exact (below_set hB (by omega) _).alloc (by simp [World.setCell]; omega) _
      case measure => simp [intOf]; omega
    · obtain rfl : i = 32 := by omega
      have hM0 : wr.heap[w.heap.size]? = some (.cells (cols (Crc.zeros Crc.polyZip (2 ^ 0))).toArray 87 (0, 0)) := by rw [← zeros_one]; exact hA
      have HM0 := hide hM0
      have HB0 := hide hB
      clear hsz hlz hi hlt hA hM0 hB
      rw [show ((32 : Nat) : Int) = 32 from rfl]
      go_wp2
      go_loopw [0, 2] (fun x y wx => ∃ (j c : Nat) (q : Int), c < 4294967296 ∧ x = .int .u32 c ∧ y = .int .i64 q ∧ q ≤ 9223372036854775807 ∧ Crc.zeros Crc.polyZip n.toNat a = Crc.zeros Crc.polyZip (q.toNat * 2 ^ j) c ∧
        wx.heap[w.heap.size]? = some (.cells (cols (Crc.zeros Crc.polyZip (2 ^ j))).toArray 87 (0, 0)) ∧ Below w.heap.size w wx) (fun _ y _ => (intOf y).toNat)
      case atStart => exact ⟨0, a, n, ha, rfl, rfl, hn, by simp, HM0.out, HB0.out⟩
      case round =>
        obtain ⟨j, c, q, hc, rfl, rfl, hq, hinv, hA, hB⟩ := hrel
        have HI := hide hinv
        have HA := hide hA
        clear hinv hA HM0
        by_cases h0 : q ≤ 0
        · have hx := u32_xor_nat c b hc hb
          have hfin : Crc.zeros Crc.polyZip n.toNat a = c := by rw [HI.out, show q.toNat = 0 by omega]; simp [Crc.zeros]
          have HF := hide hfin
          clear hfin
          go_wp2
          go_ret
          exact ⟨ret_int (by rw [HF.out]), hB⟩
        · obtain ⟨m, rfl⟩ := Int.eq_ofNat_of_zero_le (show 0 ≤ q by omega)
          have hm : 0 < (m : Int) := by omega
          have hinv' : Crc.zeros Crc.polyZip n.toNat a = Crc.zeros Crc.polyZip (m * 2 ^ j) c := HI.out
          have HI' := hide hinv'
          clear hinv'
          have hcl := cols_len (Crc.zeros Crc.polyZip (2 ^ j))
          have hi87 : (Tryd.prog.info? 87).map (·.size) = some (cols (Crc.zeros Crc.polyZip (2 ^ j))).length := by rw [size87, cols_len]
          have hi88 : (Tryd.prog.info? 87).map (·.size) = some (cols (Crc.zeros Crc.polyZip (2 ^ (j + 1)))).toArray.size := by rw [size87]; simp [cols_len]
          by_cases hodd : m % 2 = 1
          · have e1 : bits .and .i64 (m : Int) 1 = 1 := by rw [i64_and1]; omega
            have hl := (map_zeros (2 ^ j)).lt c hc
            have hh := zeros_half m j c hodd
            have HH := hide hh
            clear hh hodd h0
            go_wp2_with (first
              | ((with_reducible refine wpList_load_mid rfl 87 (.tmp 7) rfl w.heap.size 0 ?_ (cols (Crc.zeros Crc.polyZip (2 ^ j))) _ ?_ hu ?_ hi87 ?_); exact rfl; (with_reducible exact range_at HA.out); exact rfl)
              | (go_at_call 52; refine (of_any _ _ (map_zeros (2 ^ j)) c hc).mono ?_; rintro e w' ⟨rfl, rfl⟩)
              | ((with_reducible refine wpList_load_mid rfl 87 (.tmp 7) rfl w.heap.size 0 ?_ (cols (Crc.zeros Crc.polyZip (2 ^ j))) _ ?_ hu ?_ hi87 ?_); exact rfl; (with_reducible exact range_at (heap_old HA.out _)); exact rfl)
              | (go_at_call 53; refine (twice_zeros _ j).mono ?_; rintro e w1 ⟨rfl, hb1⟩; have HA1 := hide ((hb1.block _ (heap_lt (heap_old HA.out _))).trans (heap_old HA.out _)))
              | ((with_reducible refine wpList_store_mid rfl 87 (.tmp 7) (.tmp 30) rfl w.heap.size 0 (cols (Crc.zeros Crc.polyZip (2 ^ (j + 1)))).toArray ?_ ?_ ?_ ?_ ?_ ?_); exact rfl; exact rfl; exact there_cols HA1.out; exact hi88; exact all_oneCell_toArray (part_one _ _)))
            go_roundw
            case rel =>
              refine ⟨j + 1, _, ((m / 2 : Nat) : Int), hl, rfl, by simp, by omega, HI'.out.trans HH.out, ?_, ?_⟩
              · rw [heap_setCells HA1.out _ (by simp [cols_len])]
              · exact below_setCells (Nat.le_refl _) _ _ ((hB.alloc hB.size _).trans (hb1.mono (by simp; have := heap_lt HA.out; omega)))
            case measure => simp [intOf]; omega
          · have e1 : bits .and .i64 (m : Int) 1 = 0 := by rw [i64_and1]; omega
            have hh := zeros_even m j c (by omega)
            have HH := hide hh
            clear hh hodd h0
            go_wp2_with (first
              | ((with_reducible refine wpList_load_mid rfl 87 (.tmp 7) rfl w.heap.size 0 ?_ (cols (Crc.zeros Crc.polyZip (2 ^ j))) _ ?_ hu ?_ hi87 ?_); exact rfl; (with_reducible exact range_at HA.out); exact rfl)
              | (go_at_call 53; refine (twice_zeros _ j).mono ?_; rintro e w1 ⟨rfl, hb1⟩; have HA1 := hide ((hb1.block _ (heap_lt HA.out)).trans HA.out))
              | ((with_reducible refine wpList_store_mid rfl 87 (.tmp 7) (.tmp 30) rfl w.heap.size 0 (cols (Crc.zeros Crc.polyZip (2 ^ (j + 1)))).toArray ?_ ?_ ?_ ?_ ?_ ?_); exact rfl; exact rfl; exact there_cols HA1.out; exact hi88; exact all_oneCell_toArray (part_one _ _)))
            go_roundw
            case rel =>
              refine ⟨j + 1, _, ((m / 2 : Nat) : Int), hc, rfl, by simp, by omega, HI'.out.trans HH.out, ?_, ?_⟩
              · rw [heap_setCells HA1.out _ (by simp [cols_len])]
              · exact below_setCells (Nat.le_refl _) _ _ (hB.trans (hb1.mono hB.size))
            case measure => simp [intOf]; omega

end Go.Proofs.YtgebekklkodpaaaDoor

/-! Alg: the algebra of sums -/
namespace Go.Proofs.YtgebekklkodpaaaDoor
open Go.RowKit

theorem xor_back (m s : Nat) : m ^^^ (m ^^^ s) = s := by rw [← Nat.xor_assoc, Nat.xor_self, Nat.zero_xor]
theorem flip_flip (s : Nat) : flip (flip s) = s := by
  obtain ⟨m, hm⟩ : ∃ m, ∀ t, flip t = m ^^^ t := ⟨_, fun _ => rfl⟩
  rw [hm, hm]
  exact xor_back m s
theorem sum_eq (bs : List Nat) : sum bs = flip (Crc.run Crc.polyZip (flip 0) bs) := rfl
theorem ext_eq (s : Nat) (bs : List Nat) : ext s bs = flip (Crc.run Crc.polyZip (flip s) bs) := rfl
theorem ext_sum (xs bs : List Nat) : ext (sum xs) bs = sum (xs ++ bs) := by
  rw [ext_eq, sum_eq, sum_eq, flip_flip, Crc.run_append]
def joinN (a b n : Nat) : Nat := Crc.zeros Crc.polyZip n a ^^^ b
theorem joinN_lt {a b : Nat} (n : Nat) (ha : a < 4294967296) (hb : b < 4294967296) : joinN a b n < 4294967296 := Nat.xor_lt_two_pow (n := 32) (Crc.zeros_lt n (by decide) ha) hb
theorem join_sum (xs bs : List Nat) : joinN (sum xs) (sum bs) bs.length = sum (xs ++ bs) := by
  rw [sum_eq, sum_eq, sum_eq, Crc.run_append]
  generalize hA : Crc.run Crc.polyZip (flip 0) xs = A
  unfold joinN
  obtain ⟨m, hm⟩ : ∃ m, ∀ t, flip t = m ^^^ t := ⟨_, fun _ => rfl⟩
  rw [hm 0, Nat.xor_zero, hm, hm, hm]
  have h := Crc.run_xor Crc.polyZip bs (m ^^^ A) m
  rw [Nat.xor_comm m A, Nat.xor_assoc, Nat.xor_self, Nat.xor_zero] at h
  rw [h, Nat.xor_comm m A, ← Nat.xor_assoc, ← Nat.xor_assoc, Nat.xor_comm m]
theorem join_three (x y z n m : Nat) : joinN x (joinN y z m) (n + m) = joinN (joinN x y n) z m := by
  unfold joinN
  rw [Crc.zeros_add, Crc.zeros_xor, Nat.xor_assoc]
theorem joinN_any (w : World) (Z : Zip w) (a b n : Nat) (ha : a < 4294967296) (hb : b < 4294967296) (hn : n ≤ 9223372036854775807) (hg : 16 < w.heap.size) :
    Calls Tryd.prog 21 #[.int .u32 a, .int .u32 b, .int .i64 n] w fun e w' => e = .returned (.int .u32 (joinN a b n : Nat)) ∧ Below w.heap.size w w' := by
  have h := join_any w Z a b n ha hb (by omega) hg
  rw [Int.toNat_natCast] at h
  exact h
theorem join_step (w0 w : World) (HZ : Hid (Zip w0)) (hg : 16 < w0.heap.size) (HB : Hid (Below w0.heap.size w0 w)) (a b n : Nat) (ha : a < 4294967296) (hb : b < 4294967296) (hn : n ≤ 9223372036854775807) :
    Calls Tryd.prog 21 #[.int .u32 a, .int .u32 b, .int .i64 n] w fun e w' => e = .returned (.int .u32 (joinN a b n : Nat)) ∧ Below w.heap.size w w' :=
  joinN_any w (zip_below HZ.out HB.out hg) a b n ha hb hn (by have := HB.out.size; omega)
end Go.Proofs.YtgebekklkodpaaaDoor

/-! Dl: plain: what Decode takes and what Encode makes; what a turned byte does -/
namespace Go.Proofs.YtgebekklkodpaaaDoor
open Go.RowKit

namespace Nm
theorem num_uvf : ∀ (g i x : Nat) (pre rest : List Nat), pre.length = i → i + g = 9 → x * 128 ^ i < 18446744073709551616 → (i = 0 ∨ 0 < x) →
    num (g + 1) i (pre ++ Uv.uvf g x ++ rest) = (i + (Uv.uvf g x).length, 0)
  | 0, i, x, pre, rest, hp, hi, hx, h0 => by
    obtain rfl : i = 9 := by omega
    have e9 : (128 : Nat) ^ 9 = 9223372036854775808 := by decide
    have hx1 : x ≤ 1 := by rw [e9] at hx; omega
    have hget : (pre ++ Uv.uvf 0 x ++ rest)[9]? = some x := by
      rw [List.append_assoc, List.getElem?_append_right (by omega), hp]; rfl
    rw [num, hget]
    simp only
    rw [if_neg (by omega), if_neg (by omega), if_neg (by omega)]
    rfl
  | g + 1, i, x, pre, rest, hp, hi, hx, h0 => by
    by_cases hs : x < 128
    · have hget : (pre ++ Uv.uvf (g + 1) x ++ rest)[i]? = some x := by
        rw [Uv.uvf_small _ _ hs, List.append_assoc, List.getElem?_append_right (by omega), hp, Nat.sub_self]; rfl
      rw [num, hget, Uv.uvf_small _ _ hs]
      simp only
      rw [if_neg (by omega), if_neg (by omega), if_neg (by omega)]
      rfl
    · have hu := Uv.uvf_great g x (by omega)
      have hget : (pre ++ Uv.uvf (g + 1) x ++ rest)[i]? = some (x % 128 + 128) := by
        rw [hu, List.append_assoc, List.getElem?_append_right (by omega), hp, Nat.sub_self]; rfl
      rw [num, hget]
      simp only
      rw [if_neg (by omega), if_pos (by omega), hu]
      have := num_uvf g (i + 1) (x / 128) (pre ++ [x % 128 + 128]) rest (by simp [hp]) (by omega)
        (by
          refine Nat.lt_of_le_of_lt ?_ hx
          rw [Nat.pow_succ, Nat.mul_comm (128 ^ i), ← Nat.mul_assoc]
          exact Nat.mul_le_mul_right _ (Nat.div_mul_le_self _ _)) (.inr (by omega))
      rw [show pre ++ (x % 128 + 128) :: Uv.uvf g (x / 128) ++ rest = pre ++ [x % 128 + 128] ++ Uv.uvf g (x / 128) ++ rest by simp, this]
      simp only [List.length_cons, Prod.mk.injEq, and_true]
      omega
theorem val_uvf : ∀ (g x : Nat), x < 128 ^ (g + 1) → val (Uv.uvf g x) = x
  | 0, x, h => by
    simp only [Uv.uvf, val]
    simp at h
    omega
  | g + 1, x, h => by
    by_cases hs : x < 128
    · rw [Uv.uvf_small _ _ hs]; simp only [val]; omega
    · rw [Uv.uvf_great _ _ (by omega), val, val_uvf g (x / 128) (by rw [Nat.div_lt_iff_lt_mul (by omega)]; rw [Nat.pow_succ] at h; exact h)]
      omega
theorem num_uv (x : Nat) (hx : x < 18446744073709551616) (rest : List Nat) : num 10 0 (Uv.uv x ++ rest) = ((Uv.uv x).length, 0) := by
  have := num_uvf 9 0 x [] rest rfl rfl (by omega) (.inl rfl)
  rw [List.nil_append, Nat.zero_add] at this
  exact this
theorem val_uv (x : Nat) (hx : x < 18446744073709551616) : val (Uv.uv x) = x := val_uvf 9 x (by
  have e : (128 : Nat) ^ (9 + 1) = 1180591620717411303424 := by decide
  omega)
theorem take_drop_cons {l : List Nat} {i n x : Nat} (h : l[i]? = some x) (hn : i < n) : (l.take n).drop i = x :: (l.take n).drop (i + 1) := by
  have hg : (l.take n)[i]? = some x := by rw [List.getElem?_take, if_pos hn, h]
  rw [List.drop_eq_getElem?_toList_append, hg]
  rfl
/-- what is taken is made again -/
theorem uv_num : ∀ (g i n : Nat) (bs : List Nat), (∀ x ∈ bs, x < 256) → i + g = 9 → num (g + 1) i bs = (n, 0) →
    Uv.uvf g (val ((bs.take n).drop i)) = (bs.take n).drop i ∧ (0 < i → 0 < val ((bs.take n).drop i))
  | g, i, n, bs, hb, hi, h => by
    have hok := num_ok (by omega) h
    rw [num] at h
    cases hx : bs[i]? with
    | none => rw [hx] at h; simp at h
    | some x =>
      have hxb := hb x (List.mem_of_getElem? hx)
      rw [hx] at h
      simp only at h
      rw [take_drop_cons hx hok.1]
      split at h
      · simp at h
      · split at h
        · cases g with
          | zero => simp [num] at h
          | succ g =>
            obtain ⟨h1, h2⟩ := uv_num g (i + 1) n bs hb (by omega) h
            have h3 := h2 (by omega)
            rw [val]
            refine ⟨?_, fun _ => by omega⟩
            rw [Uv.uvf_great _ _ (by omega)]
            rw [show (x % 128 + 128 * val ((bs.take n).drop (i + 1))) / 128 = val ((bs.take n).drop (i + 1)) by omega, h1]
            congr 1
            omega
        · split at h
          · simp at h
          · simp only [Prod.mk.injEq, and_true] at h
            subst h
            have hnil : (bs.take (i + 1)).drop (i + 1) = [] := by
              apply List.drop_eq_nil_of_le
              rw [List.length_take]; omega
            rw [hnil]
            simp only [val]
            refine ⟨?_, fun _ => by omega⟩
            rw [Uv.uvf_small _ _ (by omega)]
            congr 1
            omega
theorem uv_of_num {n : Nat} {bs : List Nat} (hb : ∀ x ∈ bs, x < 256) (h : num 10 0 bs = (n, 0)) : Uv.uv (val (bs.take n)) = bs.take n := by
  have := (uv_num 9 0 n bs hb rfl h).1
  rw [List.drop_zero] at this
  exact this
end Nm

theorem getD_app_right (A X : List Nat) (k j : Nat) (hk : A.length = k) : (A ++ X).getD (k + j) 0 = X.getD j 0 := by
  simp only [List.getD_eq_getElem?_getD]
  rw [List.getElem?_append_right (by omega), hk, Nat.add_sub_cancel_left]
theorem wordAt_app (A X : List Nat) (k S : Nat) (hk : A.length = k) (hS : S < 4294967296) : wordAt (A ++ (Uv.word S ++ X)) k = S := by
  unfold wordAt
  have h0 := getD_app_right A (Uv.word S ++ X) k 0 hk
  rw [Nat.add_zero] at h0
  rw [h0, getD_app_right A _ k 1 hk, getD_app_right A _ k 2 hk, getD_app_right A _ k 3 hk]
  exact word_bytes S hS
theorem word_wordOf {a b c d : Nat} (ha : a < 256) (hb : b < 256) (hc : c < 256) (hd : d < 256) : Uv.word (wordOf a b c d) = [a, b, c, d] := by
  unfold wordOf Uv.word
  congr 1
  · omega
  · congr 1
    · omega
    · congr 1
      · omega
      · congr 1
        omega
theorem four_drop {b : List Nat} {j : Nat} (h : j + 4 ≤ b.length) : (b.drop j).take 4 = [b.getD j 0, b.getD (j + 1) 0, b.getD (j + 2) 0, b.getD (j + 3) 0] := by
  apply List.ext_getElem?
  intro k
  simp only [List.getD_eq_getElem?_getD]
  rcases k with _ | _ | _ | _ | k
  · simp [List.getElem?_eq_getElem (show j < b.length by omega)]
  · simp [List.getElem?_eq_getElem (show j + 1 < b.length by omega)]
  · simp [List.getElem?_eq_getElem (show j + 2 < b.length by omega)]
  · simp [List.getElem?_eq_getElem (show j + 3 < b.length by omega)]
  · simp [List.getElem?_take]
    intro h
    omega

/-- Decode of what Encode made, with anything behind -/
theorem dec_enc (tag : Nat) (body rest : List Nat) (h0 : tag ≠ 0) (ht : tag < 256) (hb : ∀ x ∈ body, x < 256) (hl : body.length < 18446744073709551616) :
    dec (enc tag body ++ rest) = .inr (1 + (Uv.uv body.length).length, 1 + (Uv.uv body.length).length + body.length) := by
  have hS : sum (encHead tag body) < 4294967296 := sum_lt (encHead_lt ht hb hl)
  have hhead : encHead tag body = tag :: (Uv.uv body.length ++ body) := by simp [encHead]
  have hb0 : enc tag body ++ rest = tag :: (Uv.uv body.length ++ (body ++ (Uv.word (sum (encHead tag body)) ++ rest))) := by
    unfold enc
    rw [hhead]
    simp
  have hn := Nm.num_uv body.length hl (body ++ (Uv.word (sum (encHead tag body)) ++ rest))
  have htake : (Uv.uv body.length ++ (body ++ (Uv.word (sum (encHead tag body)) ++ rest))).take (Uv.uv body.length).length = Uv.uv body.length := by simp
  have hlen : (encHead tag body).length = 1 + (Uv.uv body.length).length + body.length := by rw [hhead]; simp; omega
  have happ : tag :: (Uv.uv body.length ++ (body ++ (Uv.word (sum (encHead tag body)) ++ rest))) = encHead tag body ++ (Uv.word (sum (encHead tag body)) ++ rest) := by
    rw [hhead]; simp
  rw [hb0, dec, if_neg h0, hn]
  simp only [htake, Nm.val_uv body.length hl]
  rw [if_neg (by simp), if_neg (by simp [Uv.word]; omega), happ, wordAt_app _ _ _ _ hlen hS, ← hlen, List.take_left']
  · simp
  · rfl
theorem enc_length (tag : Nat) (body : List Nat) : (enc tag body).length = 1 + (Uv.uv body.length).length + body.length + 4 := by
  simp [enc, encHead, Uv.word]
  omega

/-- what Decode takes Encode makes again -/
theorem dec_ok {b : List Nat} {i j : Nat} (hb : ∀ x ∈ b, x < 256) (h : dec b = .inr (i, j)) :
    ∃ t r, b = t :: r ∧ t ≠ 0 ∧ i ≤ j ∧ j + 4 ≤ b.length ∧ 2 ≤ i ∧ enc t ((b.take j).drop i) = b.take (j + 4) := by
  cases b with
  | nil => simp [dec] at h
  | cons t r =>
    rw [dec] at h
    split at h
    · simp at h
    · rename_i ht
      split at h
      · simp at h
      · rename_i hn0
        split at h
        · simp at h
        · rename_i hlen
          split at h
          · simp at h
          · rename_i hw
            obtain ⟨n, e⟩ : ∃ n, Nm.num 10 0 r = (n, 0) := ⟨(Nm.num 10 0 r).1, Prod.ext rfl (by simpa using hn0)⟩
            rw [e] at h hlen hw
            simp only [Sum.inr.injEq, Prod.mk.injEq] at h
            simp only at hlen hw
            have hw := Classical.not_not.1 hw
            obtain ⟨rfl, rfl⟩ := h
            have hr : ∀ x ∈ r, x < 256 := fun x hx => hb x (List.mem_cons_of_mem _ hx)
            have hnn := Nm.num_ok (by omega) e
            have huv := Nm.uv_of_num hr e
            generalize hv : Nm.val (r.take n) = v at *
            have hlen' : n + v + 4 ≤ r.length := by simp at hlen; omega
            refine ⟨t, r, rfl, ht, by omega, by simp; omega, by omega, ?_⟩
            have hbody : ((t :: r).take (1 + n + v)).drop (1 + n) = (r.take (n + v)).drop n := by
              rw [show 1 + n + v = (n + v) + 1 by omega, show 1 + n = n + 1 by omega]; rfl
            have hbl : ((r.take (n + v)).drop n).length = v := by rw [List.length_drop, List.length_take]; omega
            have hhead : encHead t ((r.take (n + v)).drop n) = (t :: r).take (1 + n + v) := by
              rw [encHead, hbl, huv, show 1 + n + v = (n + v) + 1 by omega, List.take_succ_cons]
              have : r.take n = (r.take (n + v)).take n := by rw [List.take_take, Nat.min_eq_left (by omega)]
              rw [this, List.append_assoc, List.take_append_drop]
              rfl
            have h4 : (t :: r).take (1 + n + v + 4) = (t :: r).take (1 + n + v) ++ ((t :: r).drop (1 + n + v)).take 4 := List.take_add
            rw [hbody, enc, hhead, ← hw, h4, four_drop (by simp; omega), wordAt, word_wordOf]
            all_goals
              rw [List.getD_eq_getElem?_getD]
              rw [List.getElem?_eq_getElem (by simp; omega)]
              exact hb _ (List.getElem_mem _)
end Go.Proofs.YtgebekklkodpaaaDoor

/-! Dc: frame.Decode -/
namespace Go.Proofs.YtgebekklkodpaaaDoor
open Go.RowKit

theorem results_cell_row2 {P : Program} {fn : Func} {p u v : Tmp} {ty : TypeId} (h : fn.results = #[.cell p ty, .tmp u, .tmp v]) (tmps : Array Value) (w : World) (g : Nat) (t : TypeId) (cs : Array Value) (fr : Nat × Nat) (d : TypeDesc)
    (hp : tmps.getD p undef = .pointer (some ⟨g, 0, none⟩)) (hg : w.heap[g]? = some (.cells cs t fr))
    (hu : P.underlying ty = some d) (hd : (match d with | .struct _ | .array _ _ => true | _ => false) = true) (hi : (P.info? ty).map (·.size) = some cs.size) :
    (results fn tmps).run P w = .ok (.tuple #[.agg cs, tmps.getD u undef, tmps.getD v undef]) w := by
  have hp' : tmps[p]?.getD undef = .pointer (some ⟨g, 0, none⟩) := by simpa using hp
  simp [results, h, hp', asAddr, Result.andThen, run_loadVar_row w g t ty cs fr d hg hu hd hi]
theorem cells2 {w : World} {p : Nat} {a b : Value} {t : TypeId} {fr : Nat × Nat} (h : w.heap[p]? = some (.cells #[a, b] t fr)) :
    w.cell? ⟨p, 0, none⟩ = some a ∧ w.cell? ⟨p, 1, none⟩ = some b := by
  refine ⟨?_, ?_⟩
  · rw [cell_at h]; rfl
  · rw [cell_at h]; rfl
theorem Tryd.results35 : Tryd.f35.results = #[.cell 2 47, .tmp 3, .tmp 4] := rfl

def DecOut (E : Nat → Addr) (B : Nat) (bs : List Nat) (e : Ending) (w' : World) : Prop :=
  match dec bs with
  | .inl g => e = .returned (.tuple #[.agg #[.int .u8 0, .slice none 0 0], .int .i64 0, .iface 124 (.pointer (some (E g)))])
  | .inr (i, j) => ∃ g : Nat, e = .returned (.tuple #[.agg #[.int .u8 (bs.getD 0 0 : Nat), .slice (some ⟨g, 0, none⟩) (j - i) (j - i)], .int .i64 ((j + 4 : Nat) : Int), .nilIface]) ∧ B ≤ g ∧
      w'.heap[g]? = some (.cells (u8s ((bs.take j).drop i)).toArray 5 (0, 0))

set_option maxRecDepth 100000 in
set_option maxHeartbeats 4000000 in
theorem decode_any (w : World) (Z : Zip w) (E : Nat → Addr) (h0 : ErrAt w 0 (E 0)) (h1 : ErrAt w 1 (E 1)) (h2 : ErrAt w 2 (E 2)) (h6 : ErrAt w 6 (E 6)) (hg : 16 < w.heap.size) (v : Value) (bs : List Nat)
    (hs : Src w v bs) (hl : bs.length ≤ 140737488355328) : Calls Tryd.prog 35 #[v] w fun e w' => DecOut E w.heap.size bs e w' ∧ Below w.heap.size w w' := by
  obtain ⟨ao, cap, rfl⟩ := src_form hs
  have HB := hide ((Below.refl w.heap.size w).alloc (Nat.le_refl _) (.cells #[.int .u8 0, .slice none 0 0] 47))
  have HR := hide (heap_new (w := w) rfl (.cells #[.int .u8 0, .slice none 0 0] 47))
  have hlk := hide (look_any (w.alloc (.cells #[.int .u8 0, .slice none 0 0] 47)) (zip_below Z HB.out hg) E (err_below h0 HB.out (by omega)) (err_below h1 HB.out (by omega)) (err_below h2 HB.out (by omega)) (err_below h6 HB.out (by omega)) (by rw [World.size_alloc]; omega) _ bs (src_keep hs HB.out) hl)
  have HS := hide hs
  clear hs Z h0 h1 h2 h6
  go_enter Tryd.func35, Tryd.ntmps35
  go_wp2_with fail
  refine hlk.out.mono ?_
  rintro e w1 ⟨hout, hb⟩
  rw [World.size_alloc] at hb
  have HR1 := hide ((hb.block _ (by omega)).trans HR.out)
  have HB1 := hide (HB.out.trans (hb.mono (by omega)))
  have HO := hide hout
  clear hout hb hlk HR HB
  obtain ⟨c0, c1⟩ := cells2 HR1.out
  have f0 := free_at HR1.out 0
  have f1 := free_at HR1.out 1
  have hz := heap_lt HR1.out
  cases hd : dec bs with
  | inl g =>
    have hout := HO.out
    rw [LookOut, hd] at hout
    subst hout
    have HD := hide hd
    clear hd HO
    go_wp2_with fail
    refine bodyPost_ret (results_cell_row2 Tryd.results35 _ _ w.heap.size 47 #[.int .u8 0, .slice none 0 0] (0, 0) _ rfl (heap_set (heap_set HR1.out _) _) rfl rfl (by kernel_rfl)) rfl ?_
    refine ⟨?_, below_set (below_set HB1.out (Nat.le_refl _) _) (Nat.le_refl _) _⟩
    rw [DecOut, HD.out]
    rfl
  | inr q =>
    obtain ⟨i, j⟩ := q
    have hout := HO.out
    rw [LookOut, hd] at hout
    subst hout
    obtain ⟨t, r, rfl, ht0, hij, hjl, hi2, _⟩ := dec_ok HS.out.1 hd
    have HD := hide hd
    clear hd HO
    obtain ⟨ad, rfl, hc⟩ := src_cell HS.out (show (t :: r)[0]? = some t from rfl)
    rw [Addr.add_zero'] at hc
    have hadlt := World.block_lt_of_cell? w _ hc
    have hcw : w1.cell? ad = some (.int .u8 t) := (HB1.out.cell (p := ad) hadlt).trans hc
    have hcap : (t :: r).length ≤ cap ∧ cap ≤ 9223372036854775807 := by
      rcases HS.out.2 with ⟨h, _⟩ | ⟨ad', c', h, ha, hb, _⟩
      · simp at h
      · simp only [Value.slice.injEq] at h
        obtain ⟨_, _, rfl⟩ := h
        exact ⟨ha, hb⟩
    have hsP := src_part HS.out i j (cap - i) hij (by omega) (by omega) (by omega)
    have HP := hide fun w' (h : Below w.heap.size w w') => src_keep hsP h
    have HK := hide fun w' (h : Below w1.heap.size w1 w') => (h.cell (p := ad) (by omega)).trans hcw
    have hbl : (((t :: r).take j).drop i).length = j - i := by rw [List.length_drop, List.length_take]; omega
    obtain ⟨body, hbody⟩ : ∃ body, ((t :: r).take j).drop i = body := ⟨_, rfl⟩
    rw [hbody] at HP hbl
    have HC := hide fun (w' : World) (g : Nat) (h : Below w.heap.size w w') (hc : w'.cell? ⟨g, 0, none⟩ = some (.slice (some (ad.add i)) (j - i) (cap - i))) =>
      hbl ▸ concat_any w' g _ body hc (HP.out w' h) (by rw [hbl]; omega)
    have HY := hide hbody
    clear hsP hc hbody
    generalize hn : (t :: r).length = n at *
    have i0 : (0 : Int) < (n : Int) := by omega
    have i9 : 0 < n := by omega
    have i1 : (0 : Int) ≤ (i : Int) := by omega
    have i2 : (i : Int) ≤ (j : Int) := by omega
    have i3 : (j : Int) ≤ (cap : Int) := by omega
    have i4 : (j : Int) ≤ (n : Int) := by omega
    have i5 : cap - i ≠ 0 := by omega
    have i6 : i ≤ j := hij
    have i7 : j ≤ cap := by omega
    have i8 : i ≠ 0 := by omega
    have i10 : cap ≠ i := by omega
    have hcA := fun o => HK.out _ ((Below.refl _ _).alloc (Nat.le_refl _) o)
    go_wp2_with fail
    have HX := hide (HB1.out.alloc HB1.out.size (.cells #[.slice (some (ad.add i)) (j - i) (cap - i)] 25)).drew
    go_region_held3 (fun w' => w'.cell? ad = some (.int .u8 t)) (first | exact hcw | exact hcA _ | assumption | exact (World.cell?_setCell_far _ _ _ _ (by simp; omega)).trans ((World.cell?_setCell_far _ _ _ _ (by simp; omega)).trans (by assumption)))
      (first
        | (go_at_call 68
           refine (HC.out _ w1.heap.size HX.out (by show (w1.alloc _).cell? _ = _; rw [World.cell?_alloc_new]; rfl)).mono ?_
           rintro e w2 ⟨rfl, hh, hb⟩
           have hsz : (w1.alloc (.cells #[.slice (some (ad.add i)) (j - i) (cap - i)] 25)).drew.heap.size = w1.heap.size + 1 := World.size_alloc ..
           rw [hsz] at hh hb
           have hk2 := HK.out w2 (((Below.refl _ _).alloc (Nat.le_refl _) _).drew.trans (hb.mono (by omega)))
           have hr2 := (hb.block _ (by omega)).trans (heap_old HR1.out _)
           obtain ⟨d0, d1⟩ := cells2 hr2
           have e0 := free_at hr2 0
           have e1 := free_at hr2 1))
    have hB2 := HX.out.trans (hb.mono (by omega))
    have HH := hide hh
    have HB2 := hide hB2
    have HR2 := hide hr2
    clear hh hb hB2 hr2 hk2 d0 d1 e0 e1
    go_wp2_with fail
    refine bodyPost_ret (results_cell_row2 Tryd.results35 _ _ w.heap.size 47 #[.int .u8 t, .slice (some ⟨w1.heap.size + 1, 0, none⟩) (j - i) (j - i)] (0, 0) _ rfl (heap_set (heap_set HR2.out _) _) rfl rfl (by kernel_rfl)) rfl ?_
    refine ⟨?_, below_set (below_set HB2.out (Nat.le_refl _) _) (Nat.le_refl _) _⟩
    rw [DecOut, HD.out]
    refine ⟨w1.heap.size + 1, rfl, by omega, ?_⟩
    rw [HY.out]
    exact heap_else (heap_else HH.out (by omega) _) (by omega) _
end Go.Proofs.YtgebekklkodpaaaDoor
