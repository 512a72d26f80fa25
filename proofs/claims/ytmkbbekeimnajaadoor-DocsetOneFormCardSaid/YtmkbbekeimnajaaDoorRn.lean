/- a reader: Uvarint -/
import Derived.Test.YtmkbbekeimnajaaDoorBase
import Derived.Test.YtmkbbekeimnajaaDoorNm
namespace Go.Proofs.YtmkbbekeimnajaaDoor
open Go.RowKit
/-- what Uvarint answers -/
def NumOut (E : Nat → Addr) (bs : List Nat) (e : Ending) : Prop :=
  ((Nm.num 10 0 bs).2 = 0 ∧ e = .returned (.tuple #[.int .u64 (Nm.val (bs.take (Nm.num 10 0 bs).1) : Nat), .nilIface])) ∨
  ((Nm.num 10 0 bs).2 = 1 ∧ e = .returned (.tuple #[.int .u64 0, .iface 153 (.pointer (some (E 2)))])) ∨
  ((Nm.num 10 0 bs).2 = 2 ∧ e = .returned (.tuple #[.int .u64 0, .iface 153 (.pointer (some (E 3)))]))
theorem rd_drew {w : World} {p a n : Nat} {bv : Value} (h : RdAt w p a bv n) (q : Nat) : RdAt (w.drewN q) p a bv n := h
theorem src_drew {w : World} {v : Value} {bs : List Nat} (h : Src w v bs) (q : Nat) : Src (w.drewN q) v bs := src_keep h (below_drewN (Below.refl _ _) q)
theorem or_val (i x : Nat) (bs : List Nat) (hx : bs[i]? = some x) (hi : i ≤ 9) (h9 : i = 9 → x ≤ 1) :
    bits .or .u64 ((Nm.val (bs.take i) : Nat) : Int) (IntKind.u64.wrap ((x : Int) % 128 * 2 ^ (7 * i))) = ((Nm.val (bs.take (i + 1)) : Nat) : Int) := by
  have hv := Nm.val_take_lt bs i
  have hp : (128 : Nat) ^ i = 2 ^ (7 * i) := by rw [show (128 : Nat) = 2 ^ 7 from rfl, ← Nat.pow_mul]
  have e9 : (2 : Nat) ^ 63 = 9223372036854775808 := by decide
  have hb : x % 128 * 2 ^ (7 * i) < 18446744073709551616 := by
    by_cases h : i = 9
    · have := h9 h
      subst h
      have : x % 128 * 2 ^ (7 * 9) ≤ 1 * 2 ^ 63 := Nat.mul_le_mul (by omega) (by decide)
      omega
    · have h2 : (2 : Nat) ^ (7 * i) ≤ 2 ^ 56 := Nat.pow_le_pow_right (by decide) (by omega)
      have h3 : x % 128 * 2 ^ (7 * i) ≤ 127 * 2 ^ 56 := Nat.mul_le_mul (by omega) h2
      have : (127 : Nat) * 2 ^ 56 < 18446744073709551616 := by decide
      omega
  have hvb : Nm.val (bs.take i) < 18446744073709551616 := by
    have h2 : (128 : Nat) ^ i ≤ 128 ^ 9 := Nat.pow_le_pow_right (by decide) hi
    have : (128 : Nat) ^ 9 < 18446744073709551616 := by decide
    omega
  have ec : ((x : Int) % 128 * 2 ^ (7 * i)) = ((x % 128 * 2 ^ (7 * i) : Nat) : Int) := by simp
  have ew : IntKind.u64.wrap ((x : Int) % 128 * 2 ^ (7 * i)) = ((x % 128 * 2 ^ (7 * i) : Nat) : Int) := by
    rw [ec, IntKind.wrap_u64]
    omega
  rw [ew, u64_or_nat _ _ hvb hb, Nm.val_take hx, hp]
  congr 1
  rw [hp] at hv
  have h := Nat.two_pow_add_eq_or_of_lt hv (x % 128)
  rw [Nat.mul_comm, Nat.add_comm] at h
  rw [h, Nat.or_comm, Nat.mul_comm]
theorem rd_set {w : World} {p a n : Nat} {bv : Value} (h : RdAt w p a bv n) (b : Nat) : RdAt (w.setCell ⟨p, 0, none⟩ (.int .i64 (b : Nat))) p b bv n := heap_set h _
theorem src_cell {w : World} {ao : Option Addr} {n cap i x : Nat} {bs : List Nat} (h : Src w (.slice ao n cap) bs) (hx : bs[i]? = some x) : ∃ ad, ao = some ad ∧ w.cell? (ad.add i) = some (.int .u8 x) := by
  rcases h with ⟨_, ⟨_, rfl⟩ | ⟨ad, c, hv, _, _, hc⟩⟩
  · simp at hx
  · simp only [Value.slice.injEq] at hv
    exact ⟨ad, hv.1, hc i x hx⟩
set_option maxRecDepth 100000 in
set_option maxHeartbeats 4000000 in
theorem reader_uvarint (w : World) (B p : Nat) (bv : Value) (bs : List Nat) (hB : B ≤ p) (hR : RdAt w p 0 bv bs.length) (hs : Src w bv bs) (hl : bs.length ≤ 140737488355328) (E : Nat → Addr) (hE1 : ErrAt w 2 (E 2)) (hE2 : ErrAt w 3 (E 3)) (hg : 3 < B) :
    Calls Tryd.prog 82 #[.pointer (some ⟨p, 0, none⟩)] w fun e w' => NumOut E bs e ∧ Below B w w' ∧ ((Nm.num 10 0 bs).2 = 0 → RdAt w' p (Nm.num 10 0 bs).1 bv bs.length) := by
  obtain ⟨ao, cap, rfl⟩ := src_form hs
  have HR := hide hR
  have HS := hide hs
  have HE1 := hide hE1
  have HE2 := hide hE2
  clear hR hs hE1 hE2
  go_enter Tryd.func82, Tryd.ntmps82
  go_wp2_with fail
  go_loopw [4, 5] (fun v c wr => ∃ i : Nat, i ≤ 9 ∧ c = .int .i64 i ∧ v = .int .u64 (Nm.val (bs.take i) : Nat) ∧ Nm.num 10 0 bs = Nm.num (10 - i) i bs ∧ RdAt wr p 0 (.slice ao bs.length cap) bs.length ∧ Src wr (.slice ao bs.length cap) bs ∧ Below B w wr) (fun _ c _ => 10 - (intOf c).toNat)
  case atStart => exact ⟨0, by omega, rfl, rfl, rfl, HR.out, HS.out, Below.refl _ _⟩
  case round =>
    obtain ⟨i, hi, rfl, rfl, hnum, hR, hS, hb⟩ := hrel
    have HN := hide hnum
    have HR' := hide hR
    have HS' := hide hS
    have HB' := hide hb
    clear hnum hR hS hb
    go_wp2_with fail
    refine (left_any wr p 0 bs.length _ HR'.out (by omega) (by omega)).mono ?_
    rintro e w1 ⟨rfl, q, rfl⟩
    have HR1 := hide (rd_drew HR'.out q)
    have HS1 := hide (src_drew HS'.out q)
    have HB1 := hide (below_drewN HB'.out q)
    clear HR' HS' HB'
    generalize wr.drewN q = w1 at HR1 HS1 HB1
    by_cases hlt : i < bs.length
    · obtain ⟨x, hx⟩ : ∃ x, bs[i]? = some x := ⟨_, List.getElem?_eq_getElem hlt⟩
      have HX := hide hx
      have hx256 := HS1.out.1 x (List.mem_of_getElem? hx)
      obtain ⟨h0, h1, h2⟩ := cells3 HR1.out
      clear hx
      obtain ⟨ad, rfl, hxc⟩ := src_cell HS1.out HX.out
      have hw0 : IntKind.i64.wrap ((0 : Int) + i) = (i : Int) := by rw [IntKind.wrap_i64]; omega
      go_wp2_with fail
      go_quiet (fail)
      have HR2 := hide (rd_drew HR1.out nq)
      have HS2 := hide (src_drew HS1.out nq)
      have HB2 := hide (below_drewN HB1.out nq)
      clear HR1 HS1 HB1 h0 h1 h2 hxc
      generalize w1.drewN nq = w2 at HR2 HS2 HB2
      obtain ⟨g0, g1, g2⟩ := cells3 HR2.out
      have HG0 := hide g0
      have e4 : bits .and .u8 (x : Int) 127 = ((x % 128 : Nat) : Int) := by
        have := u8_and_nat x 127 hx256 (by omega)
        rw [nat_mask7] at this
        exact this
      have e5 : IntKind.i64.wrap (7 * (i : Int)) = ((7 * i : Nat) : Int) := by rw [IntKind.wrap_i64]; omega
      have hstep : Nm.num (10 - i) i bs = if i = 9 ∧ 1 < x then (0, 2) else if 128 ≤ x then Nm.num (10 - (i + 1)) (i + 1) bs else if x = 0 ∧ 0 < i then (0, 2) else (i + 1, 0) := by
        rw [show 10 - i = (9 - i) + 1 by omega, Nm.num, HX.out, show 10 - (i + 1) = 9 - i by omega]
      have HST := hide (HN.out.trans hstep)
      clear hstep
      by_cases hA : i = 9 ∧ 1 < x
      · obtain ⟨rfl, hx1⟩ := hA
        have hr : Nm.num 10 0 bs = (0, 2) := by rw [HST.out, if_pos ⟨rfl, hx1⟩]
        have HRR := hide hr
        have hx2 : 1 < (x : Int) := by omega
        have hE := err_below HE2.out HB2.out hg
        unfold ErrAt at hE
        clear hr
        go_wp2_with fail
        go_quiet (fail)
        go_wp2
        go_ret2
        exact ⟨.inr (.inr ⟨by rw [HRR.out], rfl⟩), below_drewN HB2.out _, fun h => by rw [HRR.out] at h; simp at h⟩
      · by_cases hC : 128 ≤ x
        · have hi8 : i ≤ 8 := by omega
          have e1 : ((i : Int) == 9) = false := by simp; omega
          have e2 : 128 ≤ (x : Int) := by omega
          have e3 : ((i : Int) = 9) = False := by simp; omega
          have hr : Nm.num 10 0 bs = Nm.num (10 - (i + 1)) (i + 1) bs := by rw [HST.out, if_neg hA, if_pos hC]
          have HRR := hide hr
          have HV := hide (or_val i x bs HX.out (by omega) (fun h => by omega))
          clear hr
          go_wp2_with fail
          exact ⟨⟨i + 1, by omega, by simp, by rw [HV.out], HRR.out, HR2.out, HS2.out, HB2.out⟩, by simp [intOf]; omega⟩
        · by_cases hD : x = 0 ∧ 0 < i
          · obtain ⟨rfl, hi0⟩ := hD
            have hr : Nm.num 10 0 bs = (0, 2) := by rw [HST.out, if_neg hA, if_neg hC, if_pos ⟨rfl, hi0⟩]
            have HRR := hide hr
            have hi1 : 0 < (i : Int) := by omega
            have hE := err_below HE2.out HB2.out hg
            unfold ErrAt at hE
            clear hr
            go_wp2_with fail
            all_goals (go_quiet (fail); go_wp2; go_ret2; exact ⟨.inr (.inr ⟨by rw [HRR.out], rfl⟩), below_drewN HB2.out _, fun h => by rw [HRR.out] at h; simp at h⟩)
          · have hr : Nm.num 10 0 bs = (i + 1, 0) := by rw [HST.out, if_neg hA, if_neg hC, if_neg hD]
            have HRR := hide hr
            have hf := free_at HR2.out 0
            have hw1 : IntKind.i64.wrap ((i : Int) + 1) = ((i + 1 : Nat) : Int) := by rw [IntKind.wrap_i64]; omega
            have hx128 : x % 128 = x := by omega
            have hlx : x < 128 := by omega
            have HV := hide (or_val i x bs HX.out (by omega) (fun h => by omega))
            have HRD := hide (rd_set HR2.out (i + 1))
            have HBD := hide (below_set (i := 0) HB2.out hB (.int .i64 ((i + 1 : Nat) : Int)))
            clear hr
            by_cases h9 : i = 9
            · subst h9
              by_cases hx0 : x = 0
              · exact absurd ⟨hx0, by decide⟩ hD
              · have hx1 : x = 1 := by omega
                subst hx1
                go_wp2_with fail
                have hval : bits .or .u64 ((Nm.val (bs.take 9) : Nat) : Int) (IntKind.u64.wrap (IntKind.u64.wrap (bits .and .u8 1 127) * 9223372036854775808)) = ((Nm.val (bs.take 10) : Nat) : Int) := HV.out
                go_ret2
                refine ⟨.inl ⟨by rw [HRR.out], ?_⟩, HBD.out, fun _ => by rw [HRR.out]; exact HRD.out⟩
                rw [HRR.out, hval]
                rfl
            · have e1 : ((i : Int) == 9) = false := by simp; omega
              have e3 : ((i : Int) = 9) = False := by simp; omega
              by_cases hx0 : x = 0
              · have hi0 : i = 0 := by omega
                subst hi0
                subst hx0
                go_wp2_with fail
                have hval : bits .or .u64 ((Nm.val [] : Nat) : Int) (IntKind.u64.wrap (IntKind.u64.wrap (bits .and .u8 0 127))) = ((Nm.val (bs.take 1) : Nat) : Int) := HV.out
                go_ret2
                refine ⟨.inl ⟨by rw [HRR.out], ?_⟩, HBD.out, fun _ => by rw [HRR.out]; exact HRD.out⟩
                rw [HRR.out, hval]
                rfl
              · have ex : ((x : Int) == 0) = false := by simp; omega
                have ex2 : ((x : Int) = 0) = False := by simp; omega
                go_wp2_with fail
                have hm : (x : Int) % 128 = x := by omega
                have hval := HV.out
                rw [hm] at hval
                go_ret2
                refine ⟨.inl ⟨by rw [HRR.out], ?_⟩, HBD.out, fun _ => by rw [HRR.out]; exact HRD.out⟩
                rw [HRR.out, hval]
                rfl
    · have hge : (bs.length : Int) ≤ i := by omega
      have hr : Nm.num 10 0 bs = (0, 1) := by
        rw [HN.out, show 10 - i = (9 - i) + 1 by omega, Nm.num, List.getElem?_eq_none (by omega)]
      have HRR := hide hr
      have hE := err_below HE1.out HB1.out (by omega)
      unfold ErrAt at hE
      clear hr
      go_wp2_with fail
      go_quiet (fail)
      go_wp2
      go_ret2
      exact ⟨.inr (.inl ⟨by rw [HRR.out], rfl⟩), below_drewN HB1.out _, fun h => by rw [HRR.out] at h; simp at h⟩
end Go.Proofs.YtmkbbekeimnajaaDoor
