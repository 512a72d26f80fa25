/- a reader: a number up to a bound, the end -/
import Derived.Test.YtmkbbekeimnajaaDoorRd2
namespace Go.Proofs.YtmkbbekeimnajaaDoor
open Go.RowKit
def UptoOut (bs : List Nat) (p : Nat) (bv : Value) (e : Ending) (w' : World) : Prop :=
  (∃ n r, n ≤ 1048576 ∧ bs = Uv.uv n ++ r ∧ e = .returned (.tuple #[.int .i64 (n : Nat), .nilIface]) ∧ RdAt w' p (Uv.uv n).length bv bs.length) ∨
  ((∀ n r, n ≤ 1048576 → bs ≠ Uv.uv n ++ r) ∧ ∃ a, e = .returned (.tuple #[.int .i64 0, .iface 153 (.pointer (some a))]))
theorem no_uv {bs : List Nat} (h : ∀ k, Nm.num 10 0 bs = (k, 0) → 1048576 < Nm.val (bs.take k)) : ∀ n r, n ≤ 1048576 → bs ≠ Uv.uv n ++ r := by
  rintro n r hn rfl
  have h1 := Nm.num_uv n (by omega) r
  have h2 := h _ h1
  rw [List.take_left, Nm.val_uv n (by omega)] at h2
  omega
set_option maxRecDepth 100000 in
set_option maxHeartbeats 2000000 in
theorem upto_any (w : World) (p : Nat) (bv : Value) (bs : List Nat) (hR : RdAt w p 0 bv bs.length) (hs : Src w bv bs) (hl : bs.length ≤ 140737488355328) (E : Nat → Addr) (hE1 : ErrAt w 2 (E 2)) (hE2 : ErrAt w 3 (E 3)) (hE3 : ErrAt w 4 (E 4)) (hg : 4 < p) :
    Calls Tryd.prog 63 #[.pointer (some ⟨p, 0, none⟩), .int .i64 1048576] w fun e w' => UptoOut bs p bv e w' ∧ Below p w w' := by
  obtain ⟨h0, h1, h2⟩ := cells3 hR
  have hp := heap_lt hR
  have HU := hide (reader_uvarint w p p bv bs (Nat.le_refl _) hR hs hl E hE1 hE2 (by omega))
  have HS := hide hs
  have HE3 := hide hE3
  clear hR hs hE1 hE2 hE3
  go_enter Tryd.func63, Tryd.ntmps63
  go_wp2_with fail
  refine HU.out.mono ?_
  rintro e w1 ⟨ho, hb, hr⟩
  have HB := hide hb
  have HRR := hide hr
  clear hb hr h0 h1 h2 HU
  rcases ho with ⟨hk, rfl⟩ | ⟨hk, rfl⟩ | ⟨hk, rfl⟩
  · obtain ⟨k, hk2⟩ : ∃ k, (Nm.num 10 0 bs).1 = k := ⟨_, rfl⟩
    have hnum : Nm.num 10 0 bs = (k, 0) := Prod.ext hk2 hk
    have hR1 := HRR.out hk
    rw [hk2] at hR1 ⊢
    have hvl := Nm.val_ok hnum
    have hun := Nm.uv_of_num HS.out.1 hnum
    obtain ⟨v, hv⟩ : ∃ v, Nm.val (bs.take k) = v := ⟨_, rfl⟩
    rw [hv] at hvl hun ⊢
    have HNUM := hide hnum
    have HV := hide hv
    have HUN := hide hun
    have HR1 := hide hR1
    clear hk hk2 hnum hR1 hun hv HRR
    by_cases hle : v ≤ 1048576
    · have hle2 : ¬ (1048576 : Int) < (v : Int) := by omega
      have hwv : IntKind.i64.wrap (v : Int) = (v : Int) := by rw [IntKind.wrap_i64]; omega
      clear hvl
      go_wp2_with fail
      go_ret2
      refine ⟨.inl ⟨v, bs.drop k, hle, by rw [HUN.out, List.take_append_drop], rfl, ?_⟩, HB.out⟩
      have h := HR1.out
      have hkl : (Uv.uv v).length = k := by
        rw [HUN.out, List.length_take]
        have := (Nm.num_ok (by omega) HNUM.out).2.2.1
        omega
      rw [hkl]
      exact h
    · have hle2 : (1048576 : Int) < (v : Int) := by omega
      have HNO := hide (no_uv (bs := bs) (fun k' hk' => by rw [HNUM.out] at hk'; cases hk'; rw [HV.out]; omega))
      have hE := err_below HE3.out HB.out hg
      obtain ⟨h0, h1, h2⟩ := cells3 HR1.out
      have hf := free_at HR1.out 0
      have HB2 := hide (below_set (i := 0) HB.out (Nat.le_refl p) (.int .i64 0))
      have hE' : ErrAt (w1.setCell ⟨p, 0, none⟩ (.int .i64 0)) 4 (E 4) := err_below HE3.out HB2.out hg
      have HE' := hide hE'
      clear hE hE' hvl
      go_upto_region 7 with (fail)
      generalize w1.setCell ⟨p, 0, none⟩ (.int .i64 0) = w2 at *
      have hE := HE'.out
      unfold ErrAt at hE
      go_quiet (fail)
      go_wp2_with fail
      go_ret2
      exact ⟨.inr ⟨HNO.out, _, rfl⟩, below_drewN HB2.out _⟩
  · have HNO := hide (no_uv (bs := bs) (fun k' hk' => by rw [hk'] at hk; cases hk))
    clear hk HRR
    go_wp2_with fail
    go_ret2
    exact ⟨.inr ⟨HNO.out, _, rfl⟩, HB.out⟩
  · have HNO := hide (no_uv (bs := bs) (fun k' hk' => by rw [hk'] at hk; cases hk))
    clear hk HRR
    go_wp2_with fail
    go_ret2
    exact ⟨.inr ⟨HNO.out, _, rfl⟩, HB.out⟩
set_option maxRecDepth 100000 in
theorem done_yes (w : World) (p n : Nat) (bv : Value) (hR : RdAt w p n bv n) :
    Calls Tryd.prog 66 #[.pointer (some ⟨p, 0, none⟩)] w fun e w' => e = .returned .nilIface ∧ ∃ q, w' = w.drewN q := by
  obtain ⟨h0, h1, h2⟩ := cells3 hR
  clear hR
  go_enter Tryd.func66, Tryd.ntmps66
  go_wp2_with fail
  go_quiet (fail)
  go_wp2_with fail
  go_ret
  exact ⟨rfl, _, rfl⟩
set_option maxRecDepth 100000 in
theorem done_no (w : World) (p at_ n : Nat) (bv : Value) (hR : RdAt w p at_ bv n) (hlt : at_ < n) (a : Addr) (hE : ErrAt w 6 a) :
    Calls Tryd.prog 66 #[.pointer (some ⟨p, 0, none⟩)] w fun e w' => e = .returned (.iface 153 (.pointer (some a))) ∧ ∃ q, w' = w.drewN q := by
  obtain ⟨h0, h1, h2⟩ := cells3 hR
  have hi : (at_ : Int) < (n : Int) := by omega
  unfold ErrAt at hE
  clear hR
  go_enter Tryd.func66, Tryd.ntmps66
  go_wp2_with fail
  go_quiet (fail)
  go_wp2_with fail
  go_ret
  exact ⟨rfl, _, rfl⟩
end Go.Proofs.YtmkbbekeimnajaaDoor
