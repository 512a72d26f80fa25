/- reading a byte, a number; the table of operations -/
import Derived.Test.YtbimpoabiafdaaaDoorDat
namespace Go.Proofs.YtbimpoabiafdaaaDoor
open Go.RowKit Vf

/-- the table of operations: the numbers of operands -/
def TabAt (w : World) : Prop := ∀ k : Nat, k < 17 → w.cell? ⟨24, k * 2 + 1, none⟩ = some (.int .i64 (nargs k : Nat))
theorem tab_below {B : Nat} {w w' : World} (Z : TabAt w) (h : Below B w w') (hg : 24 < B) : TabAt w' := fun k hk => (h.cell (p := ⟨24, k * 2 + 1, none⟩) hg).trans (Z k hk)
theorem args_any (w : World) (Z : TabAt w) (op : Nat) (ho : op < 256) :
    Calls Tryd.prog 33 #[.int .i64 op] w fun e w' => e = .returned (.tuple #[.int .i64 (if op < 17 then nargs op else 0 : Nat), .bool (decide (op < 17))]) ∧ w = w' := by
  by_cases h : op < 17
  · have hz := Z op h
    have e1 : (op : Int) < 17 := by omega
    rw [if_pos h]
    simp only [h, decide_true]
    generalize nargs op = na at hz ⊢
    clear Z
    go_enter Tryd.func33, Tryd.ntmps33
    go_wp2_with fail
    go_ret2
    exact ⟨rfl, rfl⟩
  · rw [if_neg h]
    simp only [h, decide_false]
    have e1 : 17 ≤ (op : Int) := by omega
    clear Z
    go_enter Tryd.func33, Tryd.ntmps33
    go_wp2_with fail
    go_ret2
    exact ⟨rfl, rfl⟩
/-- a reader that stands at place a of these bytes -/
def Rdr (w : World) (p a : Nat) (bv : Value) (bs : List Nat) : Prop :=
  RdAt w p a bv bs.length ∧ (∀ x ∈ bs, x < 256) ∧ bs.length ≤ 140737488355328 ∧ ∃ g, bv = .slice (some ⟨g, 0, none⟩) bs.length bs.length ∧ w.heap[g]? = some (.cells (u8s bs).toArray 5 (0, 0))
theorem Rdr.src {w : World} {p a : Nat} {bv : Value} {bs : List Nat} (h : Rdr w p a bv bs) : Src w bv bs := by
  obtain ⟨_, h1, h2, g, rfl, h3⟩ := h
  exact src_block h3 h1 (by omega)
theorem rdr_keepTy {w w' : World} {p a : Nat} {bv : Value} {bs : List Nat} (h : Rdr w p a bv bs) (h1 : KeepTy w w' 78) (h2 : KeepTy w w' 5) : Rdr w' p a bv bs := by
  obtain ⟨k0, k1, k2, g, rfl, k3⟩ := h
  exact ⟨h1 _ _ _ k0, k1, k2, g, rfl, h2 _ _ _ k3⟩
theorem rdr_keep {w w' : World} {p a : Nat} {bv : Value} {bs : List Nat} (h : Rdr w p a bv bs) (hb : Below w.heap.size w w') : Rdr w' p a bv bs :=
  rdr_keepTy h (keepTy_below hb 78) (keepTy_below hb 5)
theorem rdr_drew {w : World} {p a : Nat} {bv : Value} {bs : List Nat} (h : Rdr w p a bv bs) (q : Nat) : Rdr (w.drewN q) p a bv bs := rdr_keep h (below_drewN (Below.refl _ _) q)
theorem keepTy_refl (w : World) (t : TypeId) : KeepTy w w t := fun _ _ _ h => h
theorem keepTy_drew {A w : World} {t : TypeId} (h : KeepTy A w t) (q : Nat) : KeepTy A (w.drewN q) t := h
theorem keepTy_set {w : World} {p a n : Nat} {bv : Value} (h : RdAt w p a bv n) {t : TypeId} (ht : 78 ≠ t) (x : Value) : KeepTy w (w.setCell ⟨p, 0, none⟩ x) t := by
  intro k cs fr hk
  have hne : k ≠ p := by
    rintro rfl
    rw [show w.heap[k]? = _ from h] at hk
    simp only [Option.some.injEq, Obj.cells.injEq] at hk
    exact ht hk.2.1
  exact (Below.heap_setCell w ⟨p, 0, none⟩ x k hne).trans hk
theorem rdr_set {w : World} {p a : Nat} {bv : Value} {bs : List Nat} (h : Rdr w p a bv bs) (b : Nat) (z : Int) (hz : z = b) : Rdr (w.setCell ⟨p, 0, none⟩ (.int .i64 z)) p b bv bs := by
  subst hz
  obtain ⟨k0, k1, k2, g, rfl, k3⟩ := h
  exact ⟨rd_set k0 b, k1, k2, g, rfl, keepTy_set k0 (by decide) _ _ _ _ k3⟩
theorem rdr_new (w : World) (v : Value) (bs : List Nat) (hs : Src w v bs) (hn : bs.length ≤ 140737488355328) :
    Calls Tryd.prog 30 #[v] w fun e w' => ∃ p bv, e = .returned (.pointer (some ⟨p, 0, none⟩)) ∧ w.heap.size ≤ p ∧ Rdr w' p 0 bv bs ∧ Below w.heap.size w w' := by
  obtain ⟨ao, cap, rfl⟩ := src_form hs
  have HS := hide hs
  clear hs
  go_enter Tryd.func30, Tryd.ntmps30
  go_wp2_with fail
  have HBA := hide ((Below.refl w.heap.size w).alloc (Nat.le_refl _) (.cells #[.slice ao bs.length cap] 25))
  refine (concat_any _ w.heap.size (.slice ao bs.length cap) bs (by rw [World.cell?_alloc_new]; rfl) (src_keep HS.out HBA.out) hn).mono ?_
  rintro e w1 ⟨rfl, hh, hb⟩
  have HB1 := hide (HBA.out.trans (hb.mono HBA.out.size))
  rw [World.size_alloc] at hh
  have HH := hide hh
  clear hh hb
  go_wp2
  go_ret
  exact ⟨w1.heap.size, _, rfl, HB1.out.size, ⟨heap_new rfl _, HS.out.1, hn, _, rfl, heap_old HH.out _⟩, HB1.out.alloc HB1.out.size _⟩
/-- Byte, where a byte is left -/
theorem reader_byte (w : World) (B p a x : Nat) (bv : Value) (bs : List Nat) (hB : B ≤ p) (hR : Rdr w p a bv bs) (hl : bs.length ≤ 140737488355328) (hx : bs[a]? = some x) :
    Calls Tryd.prog 32 #[.pointer (some ⟨p, 0, none⟩)] w fun e w' => e = .returned (.tuple #[.int .u8 x, .nilIface]) ∧ Below B w w' ∧ Rdr w' p (a + 1) bv bs ∧ ∀ t, 78 ≠ t → KeepTy w w' t := by
  obtain ⟨ao, cap, rfl⟩ := src_form hR.src
  have hal : a < bs.length := (List.getElem?_eq_some_iff.1 hx).1
  obtain ⟨ad, rfl, _⟩ := src_cell hR.src hx
  have HR := hide hR
  have HX := hide hx
  clear hR
  go_enter Tryd.func32, Tryd.ntmps32
  go_wp2_with fail
  refine (left_any w p a bs.length _ HR.out.1 (by omega) (by omega)).mono ?_
  rintro e w1 ⟨rfl, q, rfl⟩
  have HR1 := hide (rdr_drew HR.out q)
  have HB1 := hide (below_drewN (Below.refl B w) q)
  have HK1 := hide (fun t => keepTy_drew (keepTy_refl w t) q)
  clear HR
  generalize w.drewN q = w1 at HR1 HB1 HK1
  obtain ⟨h0, h1, h2⟩ := cells3 HR1.out.1
  have hf := free_at HR1.out.1 0
  have e1 : ((bs.length : Int) - a == 0) = false := by simp; omega
  have hw1 : IntKind.i64.wrap ((a : Int) + 1) = (a : Int) + 1 := by rw [IntKind.wrap_i64]; omega
  have HRD := hide (rdr_set HR1.out (a + 1) ((a : Int) + 1) (by simp))
  have HBD := hide (below_set (i := 0) HB1.out hB (.int .i64 ((a : Int) + 1)))
  have HKD := hide (fun t ht => (HK1.out t).trans (keepTy_set HR1.out.1 ht (.int .i64 ((a : Int) + 1))))
  go_wp2_with fail
  clear HR1 HB1 h0 h1 h2 HK1
  generalize w1.setCell ⟨p, 0, none⟩ (.int .i64 ((a : Int) + 1)) = w2 at *
  obtain ⟨g0, g1, g2⟩ := cells3 HRD.out.1
  obtain ⟨ad', e2, hxc⟩ := src_cell HRD.out.src HX.out
  obtain rfl := Option.some.inj e2
  have hw2 : IntKind.i64.wrap ((a : Int) + 1 - 1) = (a : Int) := by rw [IntKind.wrap_i64]; omega
  have g0' : w2.cell? ⟨p, 0, none⟩ = some (.int .i64 ((a : Int) + 1)) := by rw [g0]; simp
  clear g0
  clear e2
  go_quiet (fail)
  go_wp2
  go_ret2
  exact ⟨rfl, below_drewN HBD.out _, rdr_drew HRD.out _, fun t ht => keepTy_drew (HKD.out t ht) _⟩
theorem or_val (i x : Nat) (bs : List Nat) (hx : bs[i]? = some x) (hi : i ≤ 9) (h9 : i = 9 → x ≤ 1) :
    bits .or .u64 ((Nm.val (bs.take i) : Nat) : Int) (IntKind.u64.wrap ((x : Int) % 128 * 2 ^ (7 * i))) = ((Nm.val (bs.take (i + 1)) : Nat) : Int) := by
  have hv := Nm.val_take_lt bs i
  have hp : (128 : Nat) ^ i = 2 ^ (7 * i) := by rw [show (128 : Nat) = 2 ^ 7 from rfl, ← Nat.pow_mul]
  have e9 : (2 : Nat) ^ 63 = 9223372036854775808 := by decide
  have hb : x % 128 * 2 ^ (7 * i) < 18446744073709551616 := by
    by_cases h : i = 9
    · have := h9 h
      subst h
      have : x % 128 * 2 ^ (7 * 9) ≤ 1 * 2 ^ 63 := Nat.mul_le_mul (by omega) (by decide)
      omega
    · have h2 : (2 : Nat) ^ (7 * i) ≤ 2 ^ 56 := Nat.pow_le_pow_right (by decide) (by omega)
      have h3 : x % 128 * 2 ^ (7 * i) ≤ 127 * 2 ^ 56 := Nat.mul_le_mul (by omega) h2
      have : (127 : Nat) * 2 ^ 56 < 18446744073709551616 := by decide
      omega
  have hvb : Nm.val (bs.take i) < 18446744073709551616 := by
    have h2 : (128 : Nat) ^ i ≤ 128 ^ 9 := Nat.pow_le_pow_right (by decide) hi
    have : (128 : Nat) ^ 9 < 18446744073709551616 := by decide
    omega
  have ec : ((x : Int) % 128 * 2 ^ (7 * i)) = ((x % 128 * 2 ^ (7 * i) : Nat) : Int) := by simp
  have ew : IntKind.u64.wrap ((x : Int) % 128 * 2 ^ (7 * i)) = ((x % 128 * 2 ^ (7 * i) : Nat) : Int) := by
    rw [ec, IntKind.wrap_u64]
    omega
  rw [ew, u64_or_nat _ _ hvb hb, Nm.val_take hx, hp]
  congr 1
  rw [hp] at hv
  have h := Nat.two_pow_add_eq_or_of_lt hv (x % 128)
  rw [Nat.mul_comm, Nat.add_comm] at h
  rw [h, Nat.or_comm, Nat.mul_comm]
/-- what Uvarint answers, of what is left -/
def NumOut (E : Nat → Addr) (bs : List Nat) (e : Ending) : Prop :=
  ((Nm.num 10 0 bs).2 = 0 ∧ e = .returned (.tuple #[.int .u64 (Nm.val (bs.take (Nm.num 10 0 bs).1) : Nat), .nilIface])) ∨
  ((Nm.num 10 0 bs).2 = 1 ∧ e = .returned (.tuple #[.int .u64 0, .iface 108 (.pointer (some (E 1)))])) ∨
  ((Nm.num 10 0 bs).2 = 2 ∧ e = .returned (.tuple #[.int .u64 0, .iface 108 (.pointer (some (E 2)))]))

set_option maxRecDepth 100000 in
set_option maxHeartbeats 4000000 in
theorem reader_uvarint (w : World) (B p a : Nat) (bv : Value) (bs t : List Nat) (ht : t = bs.drop a) (hB : B ≤ p) (hR : Rdr w p a bv bs) (ha : a ≤ bs.length) (hl : bs.length ≤ 140737488355328) (E : Nat → Addr) (hE1 : ErrAt w 1 (E 1)) (hE2 : ErrAt w 2 (E 2)) (hg : 2 < B) :
    Calls Tryd.prog 34 #[.pointer (some ⟨p, 0, none⟩)] w fun e w' => NumOut E t e ∧ Below B w w' ∧ ((Nm.num 10 0 t).2 = 0 → Rdr w' p (a + (Nm.num 10 0 t).1) bv bs ∧ ∀ t, 78 ≠ t → KeepTy w w' t) := by
  obtain ⟨ao, cap, rfl⟩ := src_form hR.src
  have HR := hide hR
  have HE1 := hide hE1
  have HE2 := hide hE2
  have htl : t.length = bs.length - a := by rw [ht, List.length_drop]
  have HG := hide (show ∀ i, t[i]? = bs[a + i]? from fun i => by rw [ht, List.getElem?_drop])
  clear hR hE1 hE2 ht
  go_enter Tryd.func34, Tryd.ntmps34
  go_wp2_with fail
  go_loopw [4, 5] (fun v c wr => ∃ i : Nat, i ≤ 9 ∧ c = .int .i64 i ∧ v = .int .u64 (Nm.val (t.take i) : Nat) ∧ Nm.num 10 0 t = Nm.num (10 - i) i t ∧ Rdr wr p a (.slice ao bs.length cap) bs ∧ Below B w wr ∧ ∀ t, KeepTy w wr t) (fun _ c _ => 10 - (intOf c).toNat)
  case atStart => exact ⟨0, by omega, rfl, rfl, rfl, HR.out, Below.refl _ _, keepTy_refl w⟩
  case round =>
    obtain ⟨i, hi, rfl, rfl, hnum, hR, hb, hk⟩ := hrel
    have HK := hide hk
    clear hk
    have HN := hide hnum
    have HR' := hide hR
    have HB' := hide hb
    clear hnum hR hb
    go_wp2_with fail
    refine (left_any wr p a bs.length _ HR'.out.1 (by omega) (by omega)).mono ?_
    rintro e w1 ⟨rfl, q, rfl⟩
    have HR1 := hide (rdr_drew HR'.out q)
    have HB1 := hide (below_drewN HB'.out q)
    have HK1 := hide (fun t => keepTy_drew (HK.out t) q)
    clear HR' HB' HK
    generalize wr.drewN q = w1 at HR1 HB1 HK1
    by_cases hlt : i < t.length
    · obtain ⟨x, hx⟩ : ∃ x, t[i]? = some x := ⟨_, List.getElem?_eq_getElem hlt⟩
      have HX := hide hx
      have hxb : bs[a + i]? = some x := (HG.out i).symm.trans hx
      have hx256 := HR1.out.src.1 x (List.mem_of_getElem? hxb)
      obtain ⟨h0, h1, h2⟩ := cells3 HR1.out.1
      clear hx
      obtain ⟨ad, rfl, hxc⟩ := src_cell HR1.out.src hxb
      have hai : a + i < bs.length := by omega
      have hw0 : IntKind.i64.wrap ((a : Int) + i) = (a : Int) + i := by rw [IntKind.wrap_i64]; omega
      have hlt2 : (i : Int) < (bs.length : Int) - a := by omega
      clear hxb
      go_wp2_with fail
      go_quiet (fail)
      have HR2 := hide (rdr_drew HR1.out nq)
      have HB2 := hide (below_drewN HB1.out nq)
      have HK2 := hide (fun t => keepTy_drew (HK1.out t) nq)
      clear HR1 HB1 h0 h1 h2 hxc HK1
      generalize w1.drewN nq = w2 at HR2 HB2 HK2
      obtain ⟨g0, g1, g2⟩ := cells3 HR2.out.1
      have HG0 := hide g0
      have e4 : bits .and .u8 (x : Int) 127 = ((x % 128 : Nat) : Int) := by
        have := u8_and_nat x 127 hx256 (by omega)
        rw [nat_mask7] at this
        exact this
      have e5 : IntKind.i64.wrap (7 * (i : Int)) = ((7 * i : Nat) : Int) := by rw [IntKind.wrap_i64]; omega
      have hstep : Nm.num (10 - i) i t = if i = 9 ∧ 1 < x then (0, 2) else if 128 ≤ x then Nm.num (10 - (i + 1)) (i + 1) t else if x = 0 ∧ 0 < i then (0, 2) else (i + 1, 0) := by
        rw [show 10 - i = (9 - i) + 1 by omega, Nm.num, HX.out, show 10 - (i + 1) = 9 - i by omega]
      have HST := hide (HN.out.trans hstep)
      clear hstep
      by_cases hA : i = 9 ∧ 1 < x
      · obtain ⟨rfl, hx1⟩ := hA
        have hr : Nm.num 10 0 t = (0, 2) := by rw [HST.out, if_pos ⟨rfl, hx1⟩]
        have HRR := hide hr
        have hx2 : 1 < (x : Int) := by omega
        have hE := err_below HE2.out HB2.out hg
        unfold ErrAt at hE
        clear hr
        go_wp2_with fail
        go_quiet (fail)
        go_wp2
        go_ret2
        exact ⟨.inr (.inr ⟨by rw [HRR.out], rfl⟩), below_drewN HB2.out _, fun h => by rw [HRR.out] at h; simp at h⟩
      · by_cases hC : 128 ≤ x
        · have hi8 : i ≤ 8 := by omega
          have e1 : ((i : Int) == 9) = false := by simp; omega
          have e2 : 128 ≤ (x : Int) := by omega
          have e3 : ((i : Int) = 9) = False := by simp; omega
          have hr : Nm.num 10 0 t = Nm.num (10 - (i + 1)) (i + 1) t := by rw [HST.out, if_neg hA, if_pos hC]
          have HRR := hide hr
          have HV := hide (or_val i x t HX.out (by omega) (fun h => by omega))
          clear hr
          go_wp2_with fail
          exact ⟨⟨i + 1, by omega, by simp, by rw [HV.out], HRR.out, HR2.out, HB2.out, HK2.out⟩, by simp [intOf]; omega⟩
        · by_cases hD : x = 0 ∧ 0 < i
          · obtain ⟨rfl, hi0⟩ := hD
            have hr : Nm.num 10 0 t = (0, 2) := by rw [HST.out, if_neg hA, if_neg hC, if_pos ⟨rfl, hi0⟩]
            have HRR := hide hr
            have hi1 : 0 < (i : Int) := by omega
            have hE := err_below HE2.out HB2.out hg
            unfold ErrAt at hE
            clear hr
            go_wp2_with fail
            all_goals (go_quiet (fail); go_wp2; go_ret2; exact ⟨.inr (.inr ⟨by rw [HRR.out], rfl⟩), below_drewN HB2.out _, fun h => by rw [HRR.out] at h; simp at h⟩)
          · have hr : Nm.num 10 0 t = (i + 1, 0) := by rw [HST.out, if_neg hA, if_neg hC, if_neg hD]
            have HRR := hide hr
            have hf := free_at HR2.out.1 0
            have hw1 : IntKind.i64.wrap ((i : Int) + 1) = (i : Int) + 1 := by rw [IntKind.wrap_i64]; omega
            have hw2 : IntKind.i64.wrap ((a : Int) + ((i : Int) + 1)) = (a : Int) + ((i : Int) + 1) := by rw [IntKind.wrap_i64]; omega
            have hx128 : x % 128 = x := by omega
            have hlx : x < 128 := by omega
            have HV := hide (or_val i x t HX.out (by omega) (fun h => by omega))
            have HRD := hide (rdr_set HR2.out (a + (i + 1)) ((a : Int) + ((i : Int) + 1)) (by simp))
            have HBD := hide (below_set (i := 0) HB2.out hB (.int .i64 ((a : Int) + ((i : Int) + 1))))
            have HKD := hide (fun t ht => (HK2.out t).trans (keepTy_set HR2.out.1 ht (.int .i64 ((a : Int) + ((i : Int) + 1)))))
            clear hr
            by_cases h9 : i = 9
            · subst h9
              by_cases hx0 : x = 0
              · exact absurd ⟨hx0, by decide⟩ hD
              · have hx1 : x = 1 := by omega
                subst hx1
                have hw3 : IntKind.i64.wrap ((a : Int) + 10) = (a : Int) + 10 := by rw [IntKind.wrap_i64]; omega
                go_wp2_with fail
                have hval : bits .or .u64 ((Nm.val (t.take 9) : Nat) : Int) (IntKind.u64.wrap (IntKind.u64.wrap (bits .and .u8 1 127) * 9223372036854775808)) = ((Nm.val (t.take 10) : Nat) : Int) := HV.out
                go_ret2
                refine ⟨.inl ⟨by rw [HRR.out], ?_⟩, HBD.out, fun _ => by rw [HRR.out]; exact ⟨HRD.out, HKD.out⟩⟩
                rw [HRR.out, hval]
                rfl
            · have e1 : ((i : Int) == 9) = false := by simp; omega
              have e3 : ((i : Int) = 9) = False := by simp; omega
              by_cases hx0 : x = 0
              · have hi0 : i = 0 := by omega
                subst hi0
                subst hx0
                have hw3 : IntKind.i64.wrap ((a : Int) + 1) = (a : Int) + 1 := by rw [IntKind.wrap_i64]; omega
                go_wp2_with fail
                have hval : bits .or .u64 ((Nm.val [] : Nat) : Int) (IntKind.u64.wrap (IntKind.u64.wrap (bits .and .u8 0 127))) = ((Nm.val (t.take 1) : Nat) : Int) := HV.out
                go_ret2
                refine ⟨.inl ⟨by rw [HRR.out], ?_⟩, HBD.out, fun _ => by rw [HRR.out]; exact ⟨HRD.out, HKD.out⟩⟩
                rw [HRR.out, hval]
                rfl
              · have ex : ((x : Int) == 0) = false := by simp; omega
                have ex2 : ((x : Int) = 0) = False := by simp; omega
                go_wp2_with fail
                have hm : (x : Int) % 128 = x := by omega
                have hval := HV.out
                rw [hm] at hval
                go_ret2
                refine ⟨.inl ⟨by rw [HRR.out], ?_⟩, HBD.out, fun _ => by rw [HRR.out]; exact ⟨HRD.out, HKD.out⟩⟩
                rw [HRR.out, hval]
                rfl
    · have hge : (bs.length : Int) - a ≤ i := by omega
      have hr : Nm.num 10 0 t = (0, 1) := by
        rw [HN.out, show 10 - i = (9 - i) + 1 by omega, Nm.num, List.getElem?_eq_none (by omega)]
      have HRR := hide hr
      have hE := err_below HE1.out HB1.out (by omega)
      unfold ErrAt at hE
      clear hr
      go_wp2_with fail
      go_quiet (fail)
      go_wp2
      go_ret2
      exact ⟨.inr (.inl ⟨by rw [HRR.out], rfl⟩), below_drewN HB1.out _, fun h => by rw [HRR.out] at h; simp at h⟩
end Go.Proofs.YtbimpoabiafdaaaDoor
